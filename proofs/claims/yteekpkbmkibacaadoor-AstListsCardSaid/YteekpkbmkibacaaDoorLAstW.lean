import Derived.Test.YteekpkbmkibacaaDoorLAstU
import Derived.Test.YteekpkbmkibacaaDoorLEvPair
/-! The law AstLists. -/
namespace Go.Proofs.Tryd
set_option linter.unusedSimpArgs false
set_option linter.unusedVariables false
open Go Go.Proofs.Ev
namespace A
variable {Γ : List (Nat × List AV)}
def numGo : Nat → Nat → ByteArray → ByteArray
  | 0, _, s => s
  | f + 1, k, s => if decide ((k : Int) > 0) || decide (s = ⟨#[]⟩) then numGo f (k / 10) (⟨#[UInt8.ofNat (48 + k % 10)]⟩ ++ s) else s
/-- A number's digits, of a number below 10000. -/
def numM (n : Nat) : ByteArray := numGo 5 n ⟨#[]⟩
theorem numGo_end {f k : Nat} {s : ByteArray} (h : (decide ((k : Int) > 0) || decide (s = ⟨#[]⟩)) = false) : numGo f k s = s := by
  cases f with
  | zero => rfl
  | succ f => rw [numGo, h]; rfl
theorem numGo_step {f k : Nat} {s : ByteArray} (hf : s.size ≤ 4) (hk : k < 10 ^ (4 - s.size)) (h : (decide ((k : Int) > 0) || decide (s = ⟨#[]⟩)) = true) (h5 : f + s.size = 5) :
    ∃ f', f' + (s.size + 1) = 5 ∧ s.size + 1 ≤ 4 ∧ k / 10 < 10 ^ (4 - (s.size + 1)) ∧ numGo f k s = numGo f' (k / 10) (⟨#[UInt8.ofNat (48 + k % 10)]⟩ ++ s) := by
  have hs : s.size ≤ 3 := by
    rcases Nat.lt_or_ge s.size 4 with h4 | h4
    · omega
    · exfalso
      have e : s.size = 4 := by omega
      rw [e] at hk
      have hk0 : k = 0 := by simpa using hk
      subst hk0
      have hne : ¬ s = ⟨#[]⟩ := fun h0 => by rw [h0] at e; cases e
      simp [hne] at h
  cases f with
  | zero => omega
  | succ f =>
    refine ⟨f, by omega, by omega, ?_, by rw [numGo, h]; rfl⟩
    rw [Nat.div_lt_iff_lt_mul (by decide), show 4 - s.size = 4 - (s.size + 1) + 1 by omega, Nat.pow_succ] at *
    exact hk
theorem size_cons1 (b : UInt8) (s : ByteArray) : (⟨#[b]⟩ ++ s : ByteArray).size = s.size + 1 := by
  rw [ByteArray.size_append]
  show 1 + _ = _
  omega
theorem numGo_size : ∀ (f k : Nat) (s : ByteArray), (numGo f k s).size ≤ f + s.size
  | 0, _, s => by simp [numGo]
  | f + 1, k, s => by
    rw [numGo]
    split
    · have := numGo_size f (k / 10) (⟨#[UInt8.ofNat (48 + k % 10)]⟩ ++ s)
      rw [size_cons1] at this
      omega
    · omega
theorem numM_size (n : Nat) : (numM n).size ≤ 5 := numGo_size 5 n ⟨#[]⟩
theorem conv1 (σ : Sto) (b : UInt8) : aConv prog σ 23 9 (.slf 1 [.val (.int .u8 (b.toNat : Int))]) = some (str ⟨#[b]⟩, σ) := by
  rw [aConv_str (by kernel_rfl) (by kernel_rfl) σ _ (fun _ _ => by simp) (fun _ => by simp), aStrOf_eq (by kernel_rfl) (by kernel_rfl)]
  show ((bytesOf ([b].map byteAV)).map fun bs => AV.val (.string ⟨bs.toArray⟩)).map (·, σ) = _
  rw [bytesOf_map]
  rfl
theorem catS {a b : ByteArray} (T : TypeId) (h : a.size + b.size ≤ 4611686018427387904) : aBin prog .add T (str a) (str b) = some (str (a ++ b)) := by
  have hm : IntKind.i64.max = 9223372036854775807 := by decide
  simp only [aBin, aStr, hm]
  rw [if_neg (by omega)]
  rfl
theorem digit_byte (k : Nat) : IntKind.wrap .u8 (48 + ((k % 10 : Nat) : Int)) = (((UInt8.ofNat (48 + k % 10)).toNat : Nat) : Int) := by
  have hk : k % 10 < 10 := Nat.mod_lt _ (by decide)
  have h1 : (UInt8.ofNat (48 + k % 10)).toNat = 48 + k % 10 := by
    rw [UInt8.toNat_ofNat']
    omega
  rw [h1]
  generalize k % 10 = r at hk
  have hr : r = 0 ∨ r = 1 ∨ r = 2 ∨ r = 3 ∨ r = 4 ∨ r = 5 ∨ r = 6 ∨ r = 7 ∨ r = 8 ∨ r = 9 := by omega
  rcases hr with rfl | rfl | rfl | rfl | rfl | rfl | rfl | rfl | rfl | rfl <;> rfl
theorem tmod10 (k : Nat) : Int.tmod ((k : Nat) : Int) 10 = ((k % 10 : Nat) : Int) := rfl
theorem tdiv10 (k : Nat) : Int.tdiv ((k : Nat) : Int) 10 = ((k / 10 : Nat) : Int) := rfl
theorem pow_le (s : Nat) : 10 ^ (4 - s) ≤ 10000 := Nat.pow_le_pow_right (by decide) (Nat.sub_le 4 s)
theorem tmod7 (k : Nat) : Int.tmod ((k : Nat) : Int) 7 = ((k % 7 : Nat) : Int) := rfl
theorem tmod1006 (k : Nat) : Int.tmod ((k : Nat) : Int) 1006 = ((k % 1006 : Nat) : Int) := rfl
def sF : ByteArray := ⟨#[102]⟩
def sB : ByteArray := ⟨#[98]⟩
def sG : ByteArray := ⟨#[103]⟩
/-- The name of a number. -/
def vS (i : Nat) : ByteArray := ⟨#[118]⟩ ++ numM i
def vN (i : Nat) : VarM := ⟨vS i, 0⟩
def bN : VarM := ⟨sB, 0⟩
def e1 : E := .mk 0 0 1 ⟨#[]⟩ true []
def q1 (s : ByteArray) : EqM := ⟨false, [s], e1⟩
theorem vS_size (i : Nat) : (vS i).size ≤ 6 := by
  rw [vS, size_cons1]
  have := numM_size i
  omega
theorem e1_enc : e1.enc = .agg [i64 0, i64 0, i64 1, str ⟨#[]⟩, .nilsl] := by rw [e1, E.enc_mk]; rfl
theorem e1_ok : e1.size ≤ 1100000 ∧ e1.fits := by
  refine ⟨by show (1 : Nat) ≤ 1100000; omega, fun d hd => ?_⟩
  simp only [e1, E.pre, preL, List.append_nil, List.mem_cons, List.not_mem_nil, or_false] at hd
  subst hd
  exact Nat.zero_le _
theorem q1_enc (s : ByteArray) : (q1 s).enc = .agg [.sl 1 [str s], i64 0, i64 0, i64 1, str ⟨#[]⟩, .nilsl] := by
  show AV.agg (_ :: e1.enc.cells) = _
  rw [e1_enc]
  rfl
theorem q1_ok {s : ByteArray} (h : s.size ≤ 1100000) : (q1 s).ok := ⟨⟨by show (1 : Nat) ≤ 1100000; omega, fun t ht => by simp only [q1, List.mem_singleton] at ht; rw [ht]; exact h⟩, e1_ok⟩
theorem vN_ok (i : Nat) : (vN i).ok := by
  show (vS i).size ≤ 1100000
  have := vS_size i
  omega
theorem bN_ok : bN.ok := by show (1 : Nat) ≤ 1100000; omega
theorem cat_v (i : Nat) : aBin prog .add 9 (.val (.string ⟨#[118]⟩)) (.val (.string (numM i))) = some (.val (.string (vS i))) :=
  catS 9 (by have := numM_size i; show 1 + _ ≤ _; omega)
theorem one_ok {l : List VarM} {m : Nat} (hl : l.length = m) (hm : m ≤ 1100000) (h : ∀ v ∈ l, v.ok) : varsOk l := ⟨by omega, h⟩
/-- A list told by its places. -/
theorem tab_ex {α : Type} (f : Nat → α) (m : Nat) : ∃ l : List α, l.length = m ∧ (∀ (i : Nat) (h : i < l.length), l[i] = f i) ∧ ∀ a ∈ l, ∃ i, a = f i :=
  ⟨(List.range m).map f, by simp, fun i h => by simp, fun a ha => by obtain ⟨i, _, rfl⟩ := List.mem_map.1 ha; exact ⟨i, rfl⟩⟩
theorem vars_ok {l : List VarM} {m : Nat} (hl : l.length = m) (hm : m ≤ 1005) (h : ∀ v ∈ l, ∃ i, v = vN i) : varsOk l :=
  ⟨by omega, fun v hv => by obtain ⟨i, rfl⟩ := h v hv; exact vN_ok i⟩
theorem nil_ok : varsOk [] := ⟨Nat.zero_le _, fun _ h => by cases h⟩
theorem bs_ok : varsOk [bN] := ⟨by show (1 : Nat) ≤ 1100000; omega, fun v hv => by rw [List.mem_singleton] at hv; rw [hv]; exact bN_ok⟩
theorem p1_ok {n : NodeM} (h : n.ok) : (ProgM.mk false [n]).ok := ⟨by show (1 : Nat) ≤ 1100000; omega, fun x hx => by rw [List.mem_singleton] at hx; rw [hx]; exact h⟩
theorem eqs1_ok : ([q1 sB].length ≤ 1100000) ∧ ∀ q ∈ [q1 sB], q.ok := ⟨by show (1 : Nat) ≤ 1100000; omega, fun x hx => by rw [List.mem_singleton] at hx; rw [hx]; exact q1_ok (by show (1 : Nat) ≤ 1100000; omega)⟩
theorem still_sl (z : Nat) (l : List AV) : AV.still (.sl z l) = .sl z l := rfl
theorem still_nil : AV.still .nilsl = .nilsl := rfl
theorem hold_len (σ l : Sto) : (σ ++ l).length = σ.length + l.length := List.length_append
theorem set0 (σ l : Sto) (a b : AO) : (σ ++ a :: l).set σ.length b = σ ++ b :: l := app_set0 σ (a :: l) b
/-- A list with a head, told by its places. -/
theorem tab1 {α : Type} (a : α) (f : Nat → α) (m : Nat) : ∃ l : List α, l.length = m + 1 ∧ l[0]? = some a ∧ (∀ (i : Nat) (h : i + 1 < l.length), l[i + 1] = f i) ∧ ∀ x ∈ l, x = a ∨ ∃ i, x = f i := by
  obtain ⟨l, h1, h2, h3⟩ := tab_ex f m
  refine ⟨a :: l, by simp [h1], rfl, fun i h => by simpa using h2 i (by simpa using h), fun x hx => ?_⟩
  rcases List.mem_cons.1 hx with e | e
  · exact .inl e
  · exact .inr (h3 x e)
theorem take1 {α : Type} {l : List α} {a : α} (h : l[0]? = some a) : l.take (0 + 1) = [a] := by
  cases l with
  | nil => simp at h
  | cons b l =>
    simp at h
    simp [h]
theorem vars_ok1 {l : List VarM} {m : Nat} (hl : l.length = m + 1) (hm : m ≤ 1005) (h : ∀ v ∈ l, v = bN ∨ ∃ i, v = vN i) : varsOk l :=
  ⟨by omega, fun v hv => by
    rcases h v hv with rfl | ⟨i, rfl⟩
    · exact bN_ok
    · exact vN_ok i⟩
theorem still_slof (sz : Nat) (es : List AV) (k : Nat) : AV.still (.slo false sz es k) = rowAV sz false es := by cases es <;> rfl
theorem succ_ne (n : Nat) : (n + 1 = n) = False := by simp
theorem two_ne (n : Nat) : (n + 2 = n) = False := by simp
theorem e6_ok {l : List E} {m : Nat} (hl : l.length = m) (hm : m ≤ 1005) (h : ∀ e ∈ l, ∃ _ : Nat, e = e1) : (E.mk 6 0 0 sG true l).size ≤ 1100000 ∧ (E.mk 6 0 0 sG true l).fits := by
  have hs : ∀ l : List E, (∀ e ∈ l, ∃ _ : Nat, e = e1) → sizeL l = l.length ∧ ∀ d ∈ preL l, d = e1 := by
    intro l
    induction l with
    | nil => exact fun _ => ⟨rfl, fun _ h => by cases h⟩
    | cons e l ih =>
      intro h
      obtain ⟨_, rfl⟩ := h e List.mem_cons_self
      obtain ⟨g1, g2⟩ := ih fun d hd => h d (List.mem_cons_of_mem _ hd)
      refine ⟨?_, fun d hd => ?_⟩
      · rw [sizeL, g1, List.length_cons]
        show 1 + _ = _
        omega
      · rw [preL, List.mem_append] at hd
        rcases hd with hd | hd
        · simp only [e1, E.pre, preL, List.mem_singleton] at hd
          exact hd
        · exact g2 d hd
  obtain ⟨h1, h2⟩ := hs l h
  refine ⟨by rw [E.size, h1]; omega, fun d hd => ?_⟩
  rw [E.pre, List.mem_cons] at hd
  rcases hd with rfl | hd
  · show (1 : Nat) ≤ _
    omega
  · rw [h2 d hd]
    exact e1_ok.2 e1 (by simp [e1, E.pre])
theorem q6_enc (l : List E) : (EqM.mk false [sB] (E.mk 6 0 0 sG true l)).enc = .agg [.sl 1 [str ⟨#[98]⟩], i64 6, i64 0, i64 0, str ⟨#[103]⟩, rowAV 5 true (l.map E.enc)] := by
  show AV.agg (_ :: (E.mk 6 0 0 sG true l).enc.cells) = _
  rw [E.enc_mk]
  rfl
theorem late8 {σ : Sto} {es : List AV} {k m : Nat} {z : AV} (h : σ[k]? = some (.cap m 5)) (hm : m = es.length) (hn : m ≤ 2000000) : aAppendO prog σ 41 41 true 5 es k (.sl 5 [z]) = some (.slo true 5 (es ++ [z]) k, σ.set k (.cap (m + 1) 5)) := by
  rw [app41, src41, h]
  exact app_one σ true 5 64 es k m z hm hn (by decide)
theorem zz43 : ofConst (.agg #[.int .i64 0, .int .i64 0, .int .i64 0, .string ⟨#[]⟩, .slice none 0 0]) = .agg [i64 0, i64 0, i64 0, str ⟨#[]⟩, .nilsl] := rfl
set_option maxRecDepth 100000 in
theorem number_calls (n : Nat) (hn : n < 10000) : APure prog Γ 32 [.val (.int .i64 (n : Nat))] (str (numM n)) := by
  refine APure.of func32 rfl fun σ => ?_
  simp only [ntmps32, List.length_cons, List.length_nil, Nat.reduceAdd, Nat.reduceSub, List.replicate_succ, List.replicate_zero, List.cons_append, List.nil_append]
  refine AW.regl false [2] (by rfl) fun K1 hK1 => ?_ -- region 0
  simp only [go_sem, Nat.reduceAdd, Nat.reduceEqDiff, Nat.reduceLeDiff, true_and, ba_beqL]
  refine hK1 _ _ ?_; try clear hK1 K1
  conv => enter [5]; simp only [setL_cons, setL_nil, List.set_cons_zero, List.set_cons_succ]
  refine AW.regl false [3] (by rfl) fun K2 hK2 => ?_ -- region 1
  simp only [go_sem, Nat.reduceAdd, Nat.reduceEqDiff, Nat.reduceLeDiff, true_and, ba_beqL]
  refine hK2 _ _ ?_; try clear hK2 K2
  conv => enter [5]; simp only [setL_cons, setL_nil, List.set_cons_zero, List.set_cons_succ]
  refine AW.seq_k fun K3 hK3 => ?_
  refine AW.regl false [4] (by rfl) fun K4 hK4 => ?_ -- region 2
  simp only [go_sem, Nat.reduceAdd, Nat.reduceEqDiff, Nat.reduceLeDiff, true_and, ba_beqL]
  refine hK4 _ _ ?_; try clear hK4 K4
  conv => enter [5]; simp only [setL_cons, setL_nil, List.set_cons_zero, List.set_cons_succ]
  refine AW.block ?_
  refine AW.loop_wk (α := Nat × ByteArray) (fun z => [.any, .any, .any, (.val (.string z.2)), (.val (.int .i64 ((z.1 : Nat) : Int))), .any, .any, .any, .any, .any, .any, .any, .any, .any, .any, .any, .any, .any, .any, .any, .any, .any, .any]) (fun z => σ) (fun z => 2 * z.1 + (if z.2 = ⟨#[]⟩ then 1 else 0)) (fun z => z.2.size ≤ 4 ∧ z.1 < 10 ^ (4 - z.2.size) ∧ ∃ f, f + z.2.size = 5 ∧ numM n = numGo f z.1 z.2) (n, ⟨#[]⟩) ?_ ?_
  · exact ⟨⟨Nat.zero_le _, hn, 5, rfl, rfl⟩, by simp [Wk], rfl⟩
  · rintro ⟨k, s⟩ ⟨hs4, hk, f, hf, hnum⟩
    simp only at hs4 hk hf hnum
    refine AW.seq_k fun K5 hK5 => ?_
    refine AW.regtf false 11 (.val (.bool ((decide ((k : Int) > 0)) || (decide (s = ⟨#[]⟩))))) (by rfl) ?_ ?_ -- region 3
    · skip
      cases h7 : ((decide ((k : Int) > 0)))
      · skip
        simp only [go_sem, Nat.reduceAdd, Nat.reduceEqDiff, Nat.reduceLeDiff, true_and, ba_beqL, h7]
        try simp [upd_at, h7, ba_beqL]
      · skip
        simp only [go_sem, Nat.reduceAdd, Nat.reduceEqDiff, Nat.reduceLeDiff, true_and, ba_beqL, h7]
        try simp [upd_at, h7, ba_beqL]
    conv => enter [5]; simp only [List.set_cons_zero, List.set_cons_succ]
    refine AW.cond rfl (fun hc11 => ?_) (fun hc11 => ?_)
    · skip
      have hkb := Nat.lt_of_lt_of_le hk (pow_le s.size)
      have hk10 : k % 10 < 10 := Nat.mod_lt _ (by decide)
      have hwd : IntKind.wrap .i64 ((k / 10 : Nat) : Int) = ((k / 10 : Nat) : Int) := wrap_i64 (by omega) (by omega)
      have hw48 : IntKind.wrap .i64 (48 + ((k % 10 : Nat) : Int)) = 48 + ((k % 10 : Nat) : Int) := wrap_i64 (by omega) (by omega)
      have hcat : aBin prog .add 9 (str ⟨#[UInt8.ofNat (48 + k % 10)]⟩) (str s) = _ := catS 9 (by show 1 + s.size ≤ _; omega)
      refine AW.skip ?_
      refine hK5 _ _ ?_; try clear hK5 K5
      refine AW.seq_k fun K7 hK7 => ?_
      refine AW.block ?_
      refine AW.lastl false [3] (by rfl) fun K hK => ?_ -- region 5
      simp only [go_sem, Nat.reduceAdd, Nat.reduceEqDiff, Nat.reduceLeDiff, true_and, ba_beqL, bin_rem (show (10 : Int) ≠ 0 by decide), tmod10, hw48, digit_byte, conv1, hcat]
      refine hK _ _ fun env' hw => ?_
      simp only [setL_cons, setL_nil, List.set_cons_zero, List.set_cons_succ] at hw
      refine hK7 _ _ (AW.weaken hw ?_); clear hw; try clear hK7 K7
      refine AW.lastl false [4] (by rfl) fun K hK => ?_ -- region 4
      simp only [go_sem, Nat.reduceAdd, Nat.reduceEqDiff, Nat.reduceLeDiff, true_and, ba_beqL, bin_quo (show (10 : Int) ≠ 0 by decide), tdiv10, hwd]
      refine hK _ _ fun env' hw => ?_
      simp only [setL_cons, setL_nil, List.set_cons_zero, List.set_cons_succ] at hw
      obtain ⟨f', g1, g2, g3, g4⟩ := numGo_step hs4 hk hc11 hf
      have hsz := size_cons1 (UInt8.ofNat (48 + k % 10)) s
      have hne : ¬ (⟨#[UInt8.ofNat (48 + k % 10)]⟩ ++ s : ByteArray) = ⟨#[]⟩ := fun e => by rw [e] at hsz; cases hsz
      refine ⟨(k / 10, ⟨#[UInt8.ofNat (48 + k % 10)]⟩ ++ s), ?_, ⟨by simp only [hsz]; omega, by simp only [hsz]; exact g3, f', by simp only [hsz]; exact g1, by simp only [hnum]; exact g4⟩, ?_, rfl⟩
      · simp only [if_neg hne]
        by_cases hs0 : s = ⟨#[]⟩
        · rw [if_pos hs0]
          omega
        · rw [if_neg hs0]
          have hk0 : k > 0 := by simpa [hs0] using hc11
          omega
      · refine hw.trans ?_
        simp [Wk]
    · skip
      refine AW.exit ?_
      refine hK3 _ _ ?_; try clear hK3 K3
      refine AW.regl false [2] (by rfl) fun K8 hK8 => ?_ -- region 6
      simp only [go_sem, Nat.reduceAdd, Nat.reduceEqDiff, Nat.reduceLeDiff, true_and, ba_beqL]
      refine hK8 _ _ ?_; try clear hK8 K8
      conv => enter [5]; simp only [setL_cons, setL_nil, List.set_cons_zero, List.set_cons_succ]
      refine AW.ret ⟨.inr rfl, _, rfl, by simp, ?_⟩ -- return 1
      rw [hnum, numGo_end hc11]
      exact .keep rfl

set_option maxRecDepth 100000 in
set_option maxHeartbeats 1000000 in
theorem lists1 (hΓ : Words Γ) (n x : Nat) (hn : n < 65536) (hx : x < 256) (hw : x % 7 = 1) : APure prog Γ 6 [.val (.int .u16 (n : Nat)), .val (.int .u8 (x : Nat))] (bool true) := by
  refine APure.of func6 rfl fun σ => ?_
  simp only [ntmps6, List.length_cons, List.length_nil, Nat.reduceAdd, Nat.reduceSub, List.replicate_succ, List.replicate_zero, List.cons_append, List.nil_append]
  have hwn : IntKind.wrap .i64 ((n : Nat) : Int) = (n : Nat) := wrap_i64 (by omega) (by omega)
  obtain ⟨m, hm⟩ : ∃ m, n % 1006 = m := ⟨_, rfl⟩
  have hm5 : m ≤ 1005 := by omega
  have hl0 : m ≤ maxLen := by rw [maxLen_eq]; omega
  obtain ⟨l, hll, hli, hlm⟩ := tab_ex vN m
  obtain ⟨nd, hnde⟩ : ∃ z : NodeM, z = ⟨sF, true, l, false, [bN], true, [], false, [q1 sB]⟩ := ⟨_, rfl⟩
  obtain ⟨p, hpe⟩ : ∃ z : ProgM, z = ⟨false, [nd]⟩ := ⟨_, rfl⟩
  have hnd : nd.ok := by
    rw [hnde]
    exact ⟨by show (1 : Nat) ≤ 1100000; omega, vars_ok hll hm5 hlm, bs_ok, nil_ok, eqs1_ok⟩
  have hpk : p.ok := by rw [hpe]; exact p1_ok hnd
  have hpn : p.nodes = [nd] := by rw [hpe]
  have hpl : p.nodes.length = 1 := by rw [hpn]; rfl
  have hy0 : (p.own.nodes.map NodeM.enc)[0]? = some nd.own.enc := by rw [ProgM.own, hpn]; rfl
  have hz0 : (p.nodes.map NodeM.enc)[0]? = some nd.enc := by rw [hpn]; rfl
  have hya : aAt 5 (rowAV 5 p.own.nl (p.own.nodes.map NodeM.enc)) (.val (.int .i64 0)) = some (.er nd.own.enc.cells) := at_row (i := 0) hy0
  have hza : aAt 5 (rowAV 5 p.nl (p.nodes.map NodeM.enc)) (.val (.int .i64 0)) = some (.er nd.enc.cells) := at_row (i := 0) hz0
  have hR34 : APure prog Γ 34 [p.own.enc] (bool p.right) := by rw [← progown_right]; exact pright_calls hΓ p.own (progown_ok hpk)
  have hR36 : APure prog Γ 36 [nd.own.enc] (bool nd.right) := by rw [← nodeown_right]; exact nright_calls hΓ nd.own (nodeown_ok hnd)
  have hpc : ([.sl 5 [.agg [str ⟨#[102]⟩, rowAV 2 true (l.map VarM.enc), .sl 2 [.agg [str ⟨#[98]⟩, i64 0]], .nilsl, .sl 6 [.agg [.sl 1 [str ⟨#[98]⟩], i64 0, i64 0, i64 1, str ⟨#[]⟩, .nilsl]]]]] : List AV) = p.enc.cells := by rw [hpe, hnde]; rfl
  refine AW.regl false [4] (by rfl) fun K1 hK1 => ?_ -- region 0
  simp only [go_sem, Nat.reduceAdd, Nat.reduceEqDiff, Nat.reduceLeDiff, true_and, ProgM.enc, NodeM.enc, EqM.enc, VarM.enc, enc_one, enc_len, enc_get43, enc_get47, eqc_get81, eqc_get128, List.length_map, List.length_cons, List.all_cons, one_row, len_row, ba_beqL, bin_rem (show (7 : Int) ≠ 0 by decide), bin_rem (show (1006 : Int) ≠ 0 by decide), tmod7, tmod1006, hw, hm]
  refine hK1 _ _ ?_; try clear hK1 K1
  conv => enter [5]; simp only [setL_cons, setL_nil, List.set_cons_zero, List.set_cons_succ]
  refine AW.regl false [5] (by rfl) fun K2 hK2 => ?_ -- region 1
  simp only [go_sem, Nat.reduceAdd, Nat.reduceEqDiff, Nat.reduceLeDiff, true_and, ProgM.enc, NodeM.enc, EqM.enc, VarM.enc, enc_one, enc_len, enc_get43, enc_get47, eqc_get81, eqc_get128, List.length_map, List.length_cons, List.all_cons, one_row, len_row, ba_beqL, bin_rem (show (7 : Int) ≠ 0 by decide), bin_rem (show (1006 : Int) ≠ 0 by decide), tmod7, tmod1006, hw, hm, hwn]
  refine hK2 _ _ ?_; try clear hK2 K2
  conv => enter [5]; simp only [setL_cons, setL_nil, List.set_cons_zero, List.set_cons_succ]
  refine AW.regl false [6] (by rfl) fun K3 hK3 => ?_ -- region 2
  simp only [go_sem, Nat.reduceAdd, Nat.reduceEqDiff, Nat.reduceLeDiff, true_and, ProgM.enc, NodeM.enc, EqM.enc, VarM.enc, enc_one, enc_len, enc_get43, enc_get47, eqc_get81, eqc_get128, List.length_map, List.length_cons, List.all_cons, one_row, len_row, ba_beqL, bin_rem (show (7 : Int) ≠ 0 by decide), bin_rem (show (1006 : Int) ≠ 0 by decide), tmod7, tmod1006, hw, hm]
  refine hK3 _ _ ?_; try clear hK3 K3
  conv => enter [5]; simp only [setL_cons, setL_nil, List.set_cons_zero, List.set_cons_succ]
  refine AW.regl false [7] (by rfl) fun K4 hK4 => ?_ -- region 3
  simp only [go_sem, Nat.reduceAdd, Nat.reduceEqDiff, Nat.reduceLeDiff, true_and, ProgM.enc, NodeM.enc, EqM.enc, VarM.enc, enc_one, enc_len, enc_get43, enc_get47, eqc_get81, eqc_get128, List.length_map, List.length_cons, List.all_cons, one_row, len_row, ba_beqL, bin_rem (show (7 : Int) ≠ 0 by decide), bin_rem (show (1006 : Int) ≠ 0 by decide), tmod7, tmod1006, hw, hm]
  refine hK4 _ _ ?_; try clear hK4 K4
  conv => enter [5]; simp only [setL_cons, setL_nil, List.set_cons_zero, List.set_cons_succ, upd_none, upd_at]
  refine AW.regl false [8] (by rfl) fun K5 hK5 => ?_ -- region 4
  simp only [go_sem, Nat.reduceAdd, Nat.reduceEqDiff, Nat.reduceLeDiff, true_and, ProgM.enc, NodeM.enc, EqM.enc, VarM.enc, enc_one, enc_len, enc_get43, enc_get47, eqc_get81, eqc_get128, List.length_map, List.length_cons, List.all_cons, one_row, len_row, ba_beqL, bin_rem (show (7 : Int) ≠ 0 by decide), bin_rem (show (1006 : Int) ≠ 0 by decide), tmod7, tmod1006, hw, hm]
  refine hK5 _ _ ?_; try clear hK5 K5
  conv => enter [5]; simp only [setL_cons, setL_nil, List.set_cons_zero, List.set_cons_succ, upd_none, upd_at]
  refine AW.seq_k fun K6 hK6 => ?_
  refine AW.regl false [9] (by rfl) fun K7 hK7 => ?_ -- region 5
  simp only [go_sem, Nat.reduceAdd, Nat.reduceEqDiff, Nat.reduceLeDiff, true_and, ProgM.enc, NodeM.enc, EqM.enc, VarM.enc, enc_one, enc_len, enc_get43, enc_get47, eqc_get81, eqc_get128, List.length_map, List.length_cons, List.all_cons, one_row, len_row, ba_beqL, bin_rem (show (7 : Int) ≠ 0 by decide), bin_rem (show (1006 : Int) ≠ 0 by decide), tmod7, tmod1006, hw, hm]
  refine hK7 _ _ ?_; try clear hK7 K7
  conv => enter [5]; simp only [setL_cons, setL_nil, List.set_cons_zero, List.set_cons_succ]
  refine AW.cap 2 ?_
  simp only [List.append_assoc, List.cons_append, List.nil_append]
  refine AW.own (σ.length + 0) 1 (σ.length + 2) ((app_get σ _ 0).trans rfl) rfl ((app_get σ _ 2).trans rfl) (by decide) ?_
  simp only [app_set, List.set_cons_zero, List.set_cons_succ]
  refine AW.block ?_
  refine AW.loop_dr (α := Nat) (fun i => [.any, (.val (.int .u8 ((x : Nat) : Int))), .any, .any, .any, (.val (.int .i64 ((m : Nat) : Int))), (.sl 2 [.agg [str ⟨#[98]⟩, i64 0]]), (.ref σ.length 0), (.ref (σ.length + 1) 0), (.val (.int .i64 ((i : Nat) : Int))), .any, .any, .any, .any, .any, .any, .any, .any, .any, .any, .any, .any, .any, .any, .any, .any, .any, .any, .any, .any, .any, .any, .any, .any, .any, .any, .any, .any, .any, .any, .any, .any, .any, .any, .any, .any, .any, .any, .any, .any, .any, .any, .any, .any, .any, .any, .any, .any, .any, .any, .any, .any, .any, .any, .any, .any, .any, .any, .any, .any, .any, .any, .any, .any, .any, .any, .any, .any, .any, .any, .any, .any, .any, .any, .any, .any, .any, .any, .any, .any, .any, .any, .any, .any, .any, .any, .any, .any, .any, .any, .any, .any, .any, .any, .any, .any, .any, .any, .any, .any, .any, .any, .any, .any, .any, .any, .any, .any, .any, .any, .any, .any, .any, .any, .any, .any, .any, .any, .any, .any, .any, .any, .any, .any, .any, .any, .any, .any, .any, .any, .any, .any, .any, .any, .any, .any, .any, .any, .any, .any, .any, .any, .any, .any, .any, .any, .any, .any, .any, .any, .any, .any, .any, .any, .any, .any, .any, .any, .any, .any, .any, .any, .any, .any, .any, .any, .any, .any, .any, .any, .any, .any, .any, .any]) (fun i => σ ++ [.cells [.val (.string (⟨#[102]⟩)), .slo true 2 ((l.take i).map VarM.enc) (σ.length + 2), .sl 2 [.agg [str ⟨#[98]⟩, i64 0]], .nilsl, .sl 6 [.agg [.sl 1 [str ⟨#[98]⟩], i64 0, i64 0, i64 1, str ⟨#[]⟩, .nilsl]]], .cells [.nilsl], .cap i 2]) (fun i => m - i) (fun i => i ≤ m) 0 ?_ ?_ ?_
  · exact ⟨Nat.zero_le _, by simp [Wk], rfl⟩
  · refine fun y _ => ⟨by simp [belL, AV.bel], bel_app σ fun a ha => ?_⟩
    simp only [List.mem_cons, List.not_mem_nil, or_false] at ha
    simp only [List.length_append, List.length_cons, List.length_nil]
    rcases ha with rfl | rfl | rfl
    · simp only [AO.bel, belL, AV.bel, Bool.true_and, Bool.and_true, Bool.and_eq_true, decide_eq_true_eq]
      exact ⟨by omega, belL_map _ _ fun x _ => var_bel x _⟩
    · rfl
    · rfl
  · intro i hi
    refine AW.seq_k fun K8 hK8 => ?_
    refine AW.regl false [26] (by rfl) fun K9 hK9 => ?_ -- region 6
    simp only [go_sem, Nat.reduceAdd, Nat.reduceEqDiff, Nat.reduceLeDiff, true_and, ProgM.enc, NodeM.enc, EqM.enc, VarM.enc, enc_one, enc_len, enc_get43, enc_get47, eqc_get81, eqc_get128, List.length_map, List.length_cons, List.all_cons, one_row, len_row, ba_beqL, bin_rem (show (7 : Int) ≠ 0 by decide), bin_rem (show (1006 : Int) ≠ 0 by decide), tmod7, tmod1006, hw, hm]
    refine hK9 _ _ ?_; try clear hK9 K9
    conv => enter [5]; simp only [setL_cons, setL_nil, List.set_cons_zero, List.set_cons_succ]
    refine AW.cond rfl (fun hc26 => ?_) (fun hc26 => ?_)
    · skip
      have hi1 : i < m := by simpa using hc26
      have hcv := cat_v i
      have hil : i < l.length := by omega
      have hap := app_at (en := VarM.enc) hil (by omega) true 2 24 (by decide)
      have htk : (l.take i).map VarM.enc ++ [.agg [str (vS i), i64 0]] = (l.take (i + 1)).map VarM.enc := by
        rw [← take_at VarM.enc hil, hli i hil]
        rfl
      refine AW.skip ?_
      refine hK8 _ _ ?_; try clear hK8 K8
      refine AW.seq_k fun K10 hK10 => ?_
      refine AW.block ?_
      refine AW.regl false [10] (by rfl) fun K11 hK11 => ?_ -- region 8
      simp only [go_sem, Nat.reduceAdd, Nat.reduceEqDiff, Nat.reduceLeDiff, true_and, ProgM.enc, NodeM.enc, EqM.enc, VarM.enc, enc_one, enc_len, enc_get43, enc_get47, eqc_get81, eqc_get128, List.length_map, List.length_cons, List.all_cons, one_row, len_row, ba_beqL, bin_rem (show (7 : Int) ≠ 0 by decide), bin_rem (show (1006 : Int) ≠ 0 by decide), tmod7, tmod1006, hw, hm, hcv]
      refine sC.of en32 ((number_calls i (by omega)).on _).here (by rfl) ?_
      simp only [go_sem, Nat.reduceAdd, Nat.reduceEqDiff, Nat.reduceLeDiff, true_and, ProgM.enc, NodeM.enc, EqM.enc, VarM.enc, enc_one, enc_len, enc_get43, enc_get47, eqc_get81, eqc_get128, List.length_map, List.length_cons, List.all_cons, one_row, len_row, ba_beqL, bin_rem (show (7 : Int) ≠ 0 by decide), bin_rem (show (1006 : Int) ≠ 0 by decide), tmod7, tmod1006, hw, hm, hcv]
      refine hK11 _ _ ?_; try clear hK11 K11
      conv => enter [5]; simp only [setL_cons, setL_nil, List.set_cons_zero, List.set_cons_succ, upd_none, upd_at]
      refine AW.regl false [34] (by rfl) fun K12 hK12 => ?_ -- region 9
      simp only [go_sem, Nat.reduceAdd, Nat.reduceEqDiff, Nat.reduceLeDiff, true_and, ProgM.enc, NodeM.enc, EqM.enc, VarM.enc, enc_one, enc_len, enc_get43, enc_get47, eqc_get81, eqc_get128, List.length_map, List.length_cons, List.all_cons, one_row, len_row, ba_beqL, bin_rem (show (7 : Int) ≠ 0 by decide), bin_rem (show (1006 : Int) ≠ 0 by decide), tmod7, tmod1006, hw, hm]
      refine hK12 _ _ ?_; try clear hK12 K12
      conv => enter [5]; simp only [setL_cons, setL_nil, List.set_cons_zero, List.set_cons_succ]
      refine AW.block ?_
      refine AW.regl false [35] (by rfl) fun K13 hK13 => ?_ -- region 10
      simp only [go_sem, Nat.reduceAdd, Nat.reduceEqDiff, Nat.reduceLeDiff, true_and, ProgM.enc, NodeM.enc, EqM.enc, VarM.enc, enc_one, enc_len, enc_get43, enc_get47, eqc_get81, eqc_get128, List.length_map, List.length_cons, List.all_cons, one_row, len_row, ba_beqL, bin_rem (show (7 : Int) ≠ 0 by decide), bin_rem (show (1006 : Int) ≠ 0 by decide), tmod7, tmod1006, hw, hm]
      refine hK13 _ _ ?_; try clear hK13 K13
      conv => enter [5]; simp only [setL_cons, setL_nil, List.set_cons_zero, List.set_cons_succ]
      refine AW.cond rfl (fun hc35 => ?_) (fun hc35 => ?_)
      · skip
        exact absurd hc35 (by decide)
      · skip
        refine AW.regl false [48] (by rfl) fun K14 hK14 => ?_ -- region 12
        simp only [go_sem, Nat.reduceAdd, Nat.reduceEqDiff, Nat.reduceLeDiff, true_and, ProgM.enc, NodeM.enc, EqM.enc, VarM.enc, enc_one, enc_len, enc_get43, enc_get47, eqc_get81, eqc_get128, List.length_map, List.length_cons, List.all_cons, one_row, len_row, ba_beqL, bin_rem (show (7 : Int) ≠ 0 by decide), bin_rem (show (1006 : Int) ≠ 0 by decide), tmod7, tmod1006, hw, hm]
        refine hK14 _ _ ?_; try clear hK14 K14
        conv => enter [5]; simp only [setL_cons, setL_nil, List.set_cons_zero, List.set_cons_succ]
        refine AW.cond rfl (fun hc48 => ?_) (fun hc48 => ?_)
        · skip
          refine AW.lastl false [] (by rfl) fun K hK => ?_ -- region 13
          simp only [go_sem, Nat.reduceAdd, Nat.reduceEqDiff, Nat.reduceLeDiff, true_and, ProgM.enc, NodeM.enc, EqM.enc, VarM.enc, enc_one, enc_len, enc_get43, enc_get47, eqc_get81, eqc_get128, List.length_map, List.length_cons, List.all_cons, one_row, len_row, ba_beqL, bin_rem (show (7 : Int) ≠ 0 by decide), bin_rem (show (1006 : Int) ≠ 0 by decide), tmod7, tmod1006, hw, hm, hap, row1_78 _ (.agg [str (vS i), i64 0]) rfl rfl, htk]
          refine hK _ _ fun env' hw => ?_
          simp only [setL_cons, setL_nil, List.set_cons_zero, List.set_cons_succ] at hw
          refine hK10 _ _ (AW.weaken hw ?_); clear hw; try clear hK10 K10
          refine AW.lastl false [9] (by rfl) fun K hK => ?_ -- region 7
          simp only [go_sem, Nat.reduceAdd, Nat.reduceEqDiff, Nat.reduceLeDiff, true_and, ProgM.enc, NodeM.enc, EqM.enc, VarM.enc, enc_one, enc_len, enc_get43, enc_get47, eqc_get81, eqc_get128, List.length_map, List.length_cons, List.all_cons, one_row, len_row, ba_beqL, bin_rem (show (7 : Int) ≠ 0 by decide), bin_rem (show (1006 : Int) ≠ 0 by decide), tmod7, tmod1006, hw, hm]
          refine hK _ _ fun env' hw => ?_
          simp only [setL_cons, setL_nil, List.set_cons_zero, List.set_cons_succ] at hw
          refine ⟨i + 1, by omega, by omega, ?_, by first | rfl | (simp [List.take_append, List.take_of_length_le]; done) | (simp [List.take_append, List.take_of_length_le]; repeat' constructor)⟩
          refine hw.trans ?_
          simp [Wk, wrap_succ hi1 hl0]
          try omega
        · skip
          exact absurd hc48 (by decide)
    · skip
      have hi1 : i = m := by
        have : ¬ i < m := by simpa using hc26
        omega
      refine AW.exit ?_
      refine hK6 _ _ ?_; try clear hK6 K6
      refine AW.seq_k fun K15 hK15 => ?_
      refine AW.still σ.length ((app_get0 σ _).trans rfl) ?_
      simp only [app_set0, List.set_cons_zero, List.map_cons, List.map_nil, still_slo, still_val, still_row, still_sl, still_nil]
      rw [show l.take i = l by rw [hi1, ← hll, List.take_length]]
      refine AW.regl false [133] (by rfl) fun K16 hK16 => ?_ -- region 27
      simp only [go_sem, Nat.reduceAdd, Nat.reduceEqDiff, Nat.reduceLeDiff, true_and, ProgM.enc, NodeM.enc, EqM.enc, VarM.enc, enc_one, enc_len, enc_get43, enc_get47, eqc_get81, eqc_get128, List.length_map, List.length_cons, List.all_cons, one_row, len_row, ba_beqL, bin_rem (show (7 : Int) ≠ 0 by decide), bin_rem (show (1006 : Int) ≠ 0 by decide), tmod7, tmod1006, hw, hm]
      refine hK16 _ _ ?_; try clear hK16 K16
      conv => enter [5]; simp only [setL_cons, setL_nil, List.set_cons_zero, List.set_cons_succ]
      refine AW.cond rfl (fun hc133 => ?_) (fun hc133 => ?_)
      · skip
        exact absurd hc133 (by decide)
      · skip
        refine AW.skip ?_
        refine hK15 _ _ ?_; try clear hK15 K15
        refine AW.seq_k fun K17 hK17 => ?_
        refine AW.regl false [151] (by rfl) fun K18 hK18 => ?_ -- region 29
        simp only [go_sem, Nat.reduceAdd, Nat.reduceEqDiff, Nat.reduceLeDiff, true_and, ProgM.enc, NodeM.enc, EqM.enc, VarM.enc, enc_one, enc_len, enc_get43, enc_get47, eqc_get81, eqc_get128, List.length_map, List.length_cons, List.all_cons, one_row, len_row, ba_beqL, bin_rem (show (7 : Int) ≠ 0 by decide), bin_rem (show (1006 : Int) ≠ 0 by decide), tmod7, tmod1006, hw, hm]
        refine hK18 _ _ ?_; try clear hK18 K18
        conv => enter [5]; simp only [setL_cons, setL_nil, List.set_cons_zero, List.set_cons_succ]
        refine AW.cond rfl (fun hc151 => ?_) (fun hc151 => ?_)
        · skip
          refine AW.lastl false [] (by rfl) fun K hK => ?_ -- region 30
          simp only [go_sem, Nat.reduceAdd, Nat.reduceEqDiff, Nat.reduceLeDiff, true_and, ProgM.enc, NodeM.enc, EqM.enc, VarM.enc, enc_one, enc_len, enc_get43, enc_get47, eqc_get81, eqc_get128, List.length_map, List.length_cons, List.all_cons, one_row, len_row, ba_beqL, bin_rem (show (7 : Int) ≠ 0 by decide), bin_rem (show (1006 : Int) ≠ 0 by decide), tmod7, tmod1006, hw, hm, row1_85 _ (.agg [str ⟨#[102]⟩, rowAV 2 true (l.map VarM.enc), .sl 2 [.agg [str ⟨#[98]⟩, i64 0]], .nilsl, .sl 6 [.agg [.sl 1 [str ⟨#[98]⟩], i64 0, i64 0, i64 1, str ⟨#[]⟩, .nilsl]]]) rfl (by simp only [AV.cells, List.all_cons, List.all_nil, one_row, one_str, one_sl, one_nilsl, Bool.and_true])]
          refine hK _ _ fun env' hw => ?_
          simp only [setL_cons, setL_nil, List.set_cons_zero, List.set_cons_succ] at hw
          refine hK17 _ _ (AW.weaken hw ?_); clear hw; try clear hK17 K17
          rw [hpc]
          refine AW.regl false [11] (by rfl) fun K19 hK19 => ?_ -- region 31
          simp only [go_sem, Nat.reduceAdd, Nat.reduceEqDiff, Nat.reduceLeDiff, true_and, ProgM.enc, NodeM.enc, EqM.enc, VarM.enc, enc_one, enc_len, enc_get43, enc_get47, eqc_get81, eqc_get128, List.length_map, List.length_cons, List.all_cons, one_row, len_row, ba_beqL, bin_rem (show (7 : Int) ≠ 0 by decide), bin_rem (show (1006 : Int) ≠ 0 by decide), tmod7, tmod1006, hw, hm]
          refine sC.of en33 ((oprog_calls p hpk).on _).here (by rfl) ?_
          simp only [go_sem, Nat.reduceAdd, Nat.reduceEqDiff, Nat.reduceLeDiff, true_and, ProgM.enc, NodeM.enc, EqM.enc, VarM.enc, enc_one, enc_len, enc_get43, enc_get47, eqc_get81, eqc_get128, List.length_map, List.length_cons, List.all_cons, one_row, len_row, ba_beqL, bin_rem (show (7 : Int) ≠ 0 by decide), bin_rem (show (1006 : Int) ≠ 0 by decide), tmod7, tmod1006, hw, hm]
          refine hK19 _ _ ?_; try clear hK19 K19
          conv => enter [5]; simp only [setL_cons, setL_nil, List.set_cons_zero, List.set_cons_succ, upd_none, upd_at]
          refine AW.regtdf mixed false 4 (.val (.bool (true))) (by kernel_rfl) (by rfl) ?_ ?_ -- region 32
          · skip
            cases h166 : (((p.nodes.length : Int) == 0))
            · skip
              simp only [go_sem, Nat.reduceAdd, Nat.reduceEqDiff, Nat.reduceLeDiff, true_and, ProgM.enc, NodeM.enc, EqM.enc, VarM.enc, enc_one, enc_len, enc_get43, enc_get47, eqc_get81, eqc_get128, List.length_map, List.length_cons, List.all_cons, one_row, len_row, ba_beqL, bin_rem (show (7 : Int) ≠ 0 by decide), bin_rem (show (1006 : Int) ≠ 0 by decide), tmod7, tmod1006, hw, hm, hya, hza, bin_beql tyBool4, beq_self_eq_true, h166]
              refine qC.of en34 (hR34.on _).here (by rfl) ?_
              simp only [go_sem, Nat.reduceAdd, Nat.reduceEqDiff, Nat.reduceLeDiff, true_and, ProgM.enc, NodeM.enc, EqM.enc, VarM.enc, enc_one, enc_len, enc_get43, enc_get47, eqc_get81, eqc_get128, List.length_map, List.length_cons, List.all_cons, one_row, len_row, ba_beqL, bin_rem (show (7 : Int) ≠ 0 by decide), bin_rem (show (1006 : Int) ≠ 0 by decide), tmod7, tmod1006, hw, hm, hya, hza, bin_beql tyBool4, beq_self_eq_true, h166]
              refine qC.of en35 ((rpright_calls p hpk).on _).here (by rfl) ?_
              simp only [go_sem, Nat.reduceAdd, Nat.reduceEqDiff, Nat.reduceLeDiff, true_and, ProgM.enc, NodeM.enc, EqM.enc, VarM.enc, enc_one, enc_len, enc_get43, enc_get47, eqc_get81, eqc_get128, List.length_map, List.length_cons, List.all_cons, one_row, len_row, ba_beqL, bin_rem (show (7 : Int) ≠ 0 by decide), bin_rem (show (1006 : Int) ≠ 0 by decide), tmod7, tmod1006, hw, hm, hya, hza, bin_beql tyBool4, beq_self_eq_true, h166]
              refine qC.of en36 (hR36.on _).here (by rfl) ?_
              simp only [go_sem, Nat.reduceAdd, Nat.reduceEqDiff, Nat.reduceLeDiff, true_and, ProgM.enc, NodeM.enc, EqM.enc, VarM.enc, enc_one, enc_len, enc_get43, enc_get47, eqc_get81, eqc_get128, List.length_map, List.length_cons, List.all_cons, one_row, len_row, ba_beqL, bin_rem (show (7 : Int) ≠ 0 by decide), bin_rem (show (1006 : Int) ≠ 0 by decide), tmod7, tmod1006, hw, hm, hya, hza, bin_beql tyBool4, beq_self_eq_true, h166]
              refine qC.of en37 ((rnright_calls nd hnd).on _).here (by rfl) ?_
              simp only [go_sem, Nat.reduceAdd, Nat.reduceEqDiff, Nat.reduceLeDiff, true_and, ProgM.enc, NodeM.enc, EqM.enc, VarM.enc, enc_one, enc_len, enc_get43, enc_get47, eqc_get81, eqc_get128, List.length_map, List.length_cons, List.all_cons, one_row, len_row, ba_beqL, bin_rem (show (7 : Int) ≠ 0 by decide), bin_rem (show (1006 : Int) ≠ 0 by decide), tmod7, tmod1006, hw, hm, hya, hza, bin_beql tyBool4, beq_self_eq_true, h166]
              refine qC.of en23 ((aawake_calls hΓ).on _).here (by rfl) ?_
              simp only [go_sem, Nat.reduceAdd, Nat.reduceEqDiff, Nat.reduceLeDiff, true_and, ProgM.enc, NodeM.enc, EqM.enc, VarM.enc, enc_one, enc_len, enc_get43, enc_get47, eqc_get81, eqc_get128, List.length_map, List.length_cons, List.all_cons, one_row, len_row, ba_beqL, bin_rem (show (7 : Int) ≠ 0 by decide), bin_rem (show (1006 : Int) ≠ 0 by decide), tmod7, tmod1006, hw, hm, hya, hza, bin_beql tyBool4, beq_self_eq_true, h166]
              try simp [upd_at, h166, ProgM.enc, NodeM.enc, EqM.enc, VarM.enc, enc_one, enc_len, enc_get43, enc_get47, eqc_get81, eqc_get128, List.length_map, List.length_cons, List.all_cons, one_row, len_row, ba_beqL, bin_rem (show (7 : Int) ≠ 0 by decide), bin_rem (show (1006 : Int) ≠ 0 by decide), tmod7, tmod1006, hw, hm, hya, hza, bin_beql tyBool4, beq_self_eq_true]
            · skip
              simp only [go_sem, Nat.reduceAdd, Nat.reduceEqDiff, Nat.reduceLeDiff, true_and, ProgM.enc, NodeM.enc, EqM.enc, VarM.enc, enc_one, enc_len, enc_get43, enc_get47, eqc_get81, eqc_get128, List.length_map, List.length_cons, List.all_cons, one_row, len_row, ba_beqL, bin_rem (show (7 : Int) ≠ 0 by decide), bin_rem (show (1006 : Int) ≠ 0 by decide), tmod7, tmod1006, hw, hm, hya, hza, bin_beql tyBool4, beq_self_eq_true, h166]
              refine qC.of en34 (hR34.on _).here (by rfl) ?_
              simp only [go_sem, Nat.reduceAdd, Nat.reduceEqDiff, Nat.reduceLeDiff, true_and, ProgM.enc, NodeM.enc, EqM.enc, VarM.enc, enc_one, enc_len, enc_get43, enc_get47, eqc_get81, eqc_get128, List.length_map, List.length_cons, List.all_cons, one_row, len_row, ba_beqL, bin_rem (show (7 : Int) ≠ 0 by decide), bin_rem (show (1006 : Int) ≠ 0 by decide), tmod7, tmod1006, hw, hm, hya, hza, bin_beql tyBool4, beq_self_eq_true, h166]
              refine qC.of en35 ((rpright_calls p hpk).on _).here (by rfl) ?_
              simp only [go_sem, Nat.reduceAdd, Nat.reduceEqDiff, Nat.reduceLeDiff, true_and, ProgM.enc, NodeM.enc, EqM.enc, VarM.enc, enc_one, enc_len, enc_get43, enc_get47, eqc_get81, eqc_get128, List.length_map, List.length_cons, List.all_cons, one_row, len_row, ba_beqL, bin_rem (show (7 : Int) ≠ 0 by decide), bin_rem (show (1006 : Int) ≠ 0 by decide), tmod7, tmod1006, hw, hm, hya, hza, bin_beql tyBool4, beq_self_eq_true, h166]
              refine qC.of en23 ((aawake_calls hΓ).on _).here (by rfl) ?_
              simp only [go_sem, Nat.reduceAdd, Nat.reduceEqDiff, Nat.reduceLeDiff, true_and, ProgM.enc, NodeM.enc, EqM.enc, VarM.enc, enc_one, enc_len, enc_get43, enc_get47, eqc_get81, eqc_get128, List.length_map, List.length_cons, List.all_cons, one_row, len_row, ba_beqL, bin_rem (show (7 : Int) ≠ 0 by decide), bin_rem (show (1006 : Int) ≠ 0 by decide), tmod7, tmod1006, hw, hm, hya, hza, bin_beql tyBool4, beq_self_eq_true, h166]
              try simp [upd_at, h166, ProgM.enc, NodeM.enc, EqM.enc, VarM.enc, enc_one, enc_len, enc_get43, enc_get47, eqc_get81, eqc_get128, List.length_map, List.length_cons, List.all_cons, one_row, len_row, ba_beqL, bin_rem (show (7 : Int) ≠ 0 by decide), bin_rem (show (1006 : Int) ≠ 0 by decide), tmod7, tmod1006, hw, hm, hya, hza, bin_beql tyBool4, beq_self_eq_true]
          conv => enter [5]; simp only [List.set_cons_zero, List.set_cons_succ]
          refine AW.ret ⟨.inr rfl, _, rfl, by simp, ?_⟩ -- return 1
          exact .keep rfl
        · skip
          exact absurd hc151 (by decide)

set_option maxRecDepth 100000 in
set_option maxHeartbeats 1000000 in
theorem lists3 (hΓ : Words Γ) (n x : Nat) (hn : n < 65536) (hx : x < 256) (hw : x % 7 = 3) : APure prog Γ 6 [.val (.int .u16 (n : Nat)), .val (.int .u8 (x : Nat))] (bool true) := by
  refine APure.of func6 rfl fun σ => ?_
  simp only [ntmps6, List.length_cons, List.length_nil, Nat.reduceAdd, Nat.reduceSub, List.replicate_succ, List.replicate_zero, List.cons_append, List.nil_append]
  have hwn : IntKind.wrap .i64 ((n : Nat) : Int) = (n : Nat) := wrap_i64 (by omega) (by omega)
  obtain ⟨m, hm⟩ : ∃ m, n % 1006 = m := ⟨_, rfl⟩
  have hm5 : m ≤ 1005 := by omega
  have hl0 : m ≤ maxLen := by rw [maxLen_eq]; omega
  obtain ⟨l, hll, hli, hlm⟩ := tab_ex vN m
  obtain ⟨nd, hnde⟩ : ∃ z : NodeM, z = ⟨sF, true, [], false, [bN], true, l, false, [q1 sB]⟩ := ⟨_, rfl⟩
  obtain ⟨p, hpe⟩ : ∃ z : ProgM, z = ⟨false, [nd]⟩ := ⟨_, rfl⟩
  have hnd : nd.ok := by
    rw [hnde]
    exact ⟨by show (1 : Nat) ≤ 1100000; omega, nil_ok, bs_ok, vars_ok hll hm5 hlm, eqs1_ok⟩
  have hpk : p.ok := by rw [hpe]; exact p1_ok hnd
  have hpn : p.nodes = [nd] := by rw [hpe]
  have hpl : p.nodes.length = 1 := by rw [hpn]; rfl
  have hy0 : (p.own.nodes.map NodeM.enc)[0]? = some nd.own.enc := by rw [ProgM.own, hpn]; rfl
  have hz0 : (p.nodes.map NodeM.enc)[0]? = some nd.enc := by rw [hpn]; rfl
  have hya : aAt 5 (rowAV 5 p.own.nl (p.own.nodes.map NodeM.enc)) (.val (.int .i64 0)) = some (.er nd.own.enc.cells) := at_row (i := 0) hy0
  have hza : aAt 5 (rowAV 5 p.nl (p.nodes.map NodeM.enc)) (.val (.int .i64 0)) = some (.er nd.enc.cells) := at_row (i := 0) hz0
  have hR34 : APure prog Γ 34 [p.own.enc] (bool p.right) := by rw [← progown_right]; exact pright_calls hΓ p.own (progown_ok hpk)
  have hR36 : APure prog Γ 36 [nd.own.enc] (bool nd.right) := by rw [← nodeown_right]; exact nright_calls hΓ nd.own (nodeown_ok hnd)
  have hpc : ([.sl 5 [.agg [str ⟨#[102]⟩, .nilsl, .sl 2 [.agg [str ⟨#[98]⟩, i64 0]], rowAV 2 true (l.map VarM.enc), .sl 6 [.agg [.sl 1 [str ⟨#[98]⟩], i64 0, i64 0, i64 1, str ⟨#[]⟩, .nilsl]]]]] : List AV) = p.enc.cells := by rw [hpe, hnde]; rfl
  refine AW.regl false [4] (by rfl) fun K1 hK1 => ?_ -- region 0
  simp only [go_sem, Nat.reduceAdd, Nat.reduceEqDiff, Nat.reduceLeDiff, true_and, ProgM.enc, NodeM.enc, EqM.enc, VarM.enc, enc_one, enc_len, enc_get43, enc_get47, eqc_get81, eqc_get128, List.length_map, List.length_cons, List.all_cons, one_row, len_row, ba_beqL, bin_rem (show (7 : Int) ≠ 0 by decide), bin_rem (show (1006 : Int) ≠ 0 by decide), tmod7, tmod1006, hw, hm]
  refine hK1 _ _ ?_; try clear hK1 K1
  conv => enter [5]; simp only [setL_cons, setL_nil, List.set_cons_zero, List.set_cons_succ]
  refine AW.regl false [5] (by rfl) fun K2 hK2 => ?_ -- region 1
  simp only [go_sem, Nat.reduceAdd, Nat.reduceEqDiff, Nat.reduceLeDiff, true_and, ProgM.enc, NodeM.enc, EqM.enc, VarM.enc, enc_one, enc_len, enc_get43, enc_get47, eqc_get81, eqc_get128, List.length_map, List.length_cons, List.all_cons, one_row, len_row, ba_beqL, bin_rem (show (7 : Int) ≠ 0 by decide), bin_rem (show (1006 : Int) ≠ 0 by decide), tmod7, tmod1006, hw, hm, hwn]
  refine hK2 _ _ ?_; try clear hK2 K2
  conv => enter [5]; simp only [setL_cons, setL_nil, List.set_cons_zero, List.set_cons_succ]
  refine AW.regl false [6] (by rfl) fun K3 hK3 => ?_ -- region 2
  simp only [go_sem, Nat.reduceAdd, Nat.reduceEqDiff, Nat.reduceLeDiff, true_and, ProgM.enc, NodeM.enc, EqM.enc, VarM.enc, enc_one, enc_len, enc_get43, enc_get47, eqc_get81, eqc_get128, List.length_map, List.length_cons, List.all_cons, one_row, len_row, ba_beqL, bin_rem (show (7 : Int) ≠ 0 by decide), bin_rem (show (1006 : Int) ≠ 0 by decide), tmod7, tmod1006, hw, hm]
  refine hK3 _ _ ?_; try clear hK3 K3
  conv => enter [5]; simp only [setL_cons, setL_nil, List.set_cons_zero, List.set_cons_succ]
  refine AW.regl false [7] (by rfl) fun K4 hK4 => ?_ -- region 3
  simp only [go_sem, Nat.reduceAdd, Nat.reduceEqDiff, Nat.reduceLeDiff, true_and, ProgM.enc, NodeM.enc, EqM.enc, VarM.enc, enc_one, enc_len, enc_get43, enc_get47, eqc_get81, eqc_get128, List.length_map, List.length_cons, List.all_cons, one_row, len_row, ba_beqL, bin_rem (show (7 : Int) ≠ 0 by decide), bin_rem (show (1006 : Int) ≠ 0 by decide), tmod7, tmod1006, hw, hm]
  refine hK4 _ _ ?_; try clear hK4 K4
  conv => enter [5]; simp only [setL_cons, setL_nil, List.set_cons_zero, List.set_cons_succ, upd_none, upd_at]
  refine AW.regl false [8] (by rfl) fun K5 hK5 => ?_ -- region 4
  simp only [go_sem, Nat.reduceAdd, Nat.reduceEqDiff, Nat.reduceLeDiff, true_and, ProgM.enc, NodeM.enc, EqM.enc, VarM.enc, enc_one, enc_len, enc_get43, enc_get47, eqc_get81, eqc_get128, List.length_map, List.length_cons, List.all_cons, one_row, len_row, ba_beqL, bin_rem (show (7 : Int) ≠ 0 by decide), bin_rem (show (1006 : Int) ≠ 0 by decide), tmod7, tmod1006, hw, hm]
  refine hK5 _ _ ?_; try clear hK5 K5
  conv => enter [5]; simp only [setL_cons, setL_nil, List.set_cons_zero, List.set_cons_succ, upd_none, upd_at]
  refine AW.seq_k fun K6 hK6 => ?_
  refine AW.regl false [9] (by rfl) fun K7 hK7 => ?_ -- region 5
  simp only [go_sem, Nat.reduceAdd, Nat.reduceEqDiff, Nat.reduceLeDiff, true_and, ProgM.enc, NodeM.enc, EqM.enc, VarM.enc, enc_one, enc_len, enc_get43, enc_get47, eqc_get81, eqc_get128, List.length_map, List.length_cons, List.all_cons, one_row, len_row, ba_beqL, bin_rem (show (7 : Int) ≠ 0 by decide), bin_rem (show (1006 : Int) ≠ 0 by decide), tmod7, tmod1006, hw, hm]
  refine hK7 _ _ ?_; try clear hK7 K7
  conv => enter [5]; simp only [setL_cons, setL_nil, List.set_cons_zero, List.set_cons_succ]
  refine AW.cap 2 ?_
  simp only [List.append_assoc, List.cons_append, List.nil_append]
  refine AW.own (σ.length + 0) 3 (σ.length + 2) ((app_get σ _ 0).trans rfl) rfl ((app_get σ _ 2).trans rfl) (by decide) ?_
  simp only [app_set, List.set_cons_zero, List.set_cons_succ]
  refine AW.block ?_
  refine AW.loop_dr (α := Nat) (fun i => [.any, (.val (.int .u8 ((x : Nat) : Int))), .any, .any, .any, (.val (.int .i64 ((m : Nat) : Int))), (.sl 2 [.agg [str ⟨#[98]⟩, i64 0]]), (.ref σ.length 0), (.ref (σ.length + 1) 0), (.val (.int .i64 ((i : Nat) : Int))), .any, .any, .any, .any, .any, .any, .any, .any, .any, .any, .any, .any, .any, .any, .any, .any, .any, .any, .any, .any, .any, .any, .any, .any, .any, .any, .any, .any, .any, .any, .any, .any, .any, .any, .any, .any, .any, .any, .any, .any, .any, .any, .any, .any, .any, .any, .any, .any, .any, .any, .any, .any, .any, .any, .any, .any, .any, .any, .any, .any, .any, .any, .any, .any, .any, .any, .any, .any, .any, .any, .any, .any, .any, .any, .any, .any, .any, .any, .any, .any, .any, .any, .any, .any, .any, .any, .any, .any, .any, .any, .any, .any, .any, .any, .any, .any, .any, .any, .any, .any, .any, .any, .any, .any, .any, .any, .any, .any, .any, .any, .any, .any, .any, .any, .any, .any, .any, .any, .any, .any, .any, .any, .any, .any, .any, .any, .any, .any, .any, .any, .any, .any, .any, .any, .any, .any, .any, .any, .any, .any, .any, .any, .any, .any, .any, .any, .any, .any, .any, .any, .any, .any, .any, .any, .any, .any, .any, .any, .any, .any, .any, .any, .any, .any, .any, .any, .any, .any, .any, .any, .any, .any, .any, .any]) (fun i => σ ++ [.cells [.val (.string (⟨#[102]⟩)), .nilsl, .sl 2 [.agg [str ⟨#[98]⟩, i64 0]], .slo true 2 ((l.take i).map VarM.enc) (σ.length + 2), .sl 6 [.agg [.sl 1 [str ⟨#[98]⟩], i64 0, i64 0, i64 1, str ⟨#[]⟩, .nilsl]]], .cells [.nilsl], .cap i 2]) (fun i => m - i) (fun i => i ≤ m) 0 ?_ ?_ ?_
  · exact ⟨Nat.zero_le _, by simp [Wk], rfl⟩
  · refine fun y _ => ⟨by simp [belL, AV.bel], bel_app σ fun a ha => ?_⟩
    simp only [List.mem_cons, List.not_mem_nil, or_false] at ha
    simp only [List.length_append, List.length_cons, List.length_nil]
    rcases ha with rfl | rfl | rfl
    · simp only [AO.bel, belL, AV.bel, Bool.true_and, Bool.and_true, Bool.and_eq_true, decide_eq_true_eq]
      exact ⟨by omega, belL_map _ _ fun x _ => var_bel x _⟩
    · rfl
    · rfl
  · intro i hi
    refine AW.seq_k fun K8 hK8 => ?_
    refine AW.regl false [26] (by rfl) fun K9 hK9 => ?_ -- region 6
    simp only [go_sem, Nat.reduceAdd, Nat.reduceEqDiff, Nat.reduceLeDiff, true_and, ProgM.enc, NodeM.enc, EqM.enc, VarM.enc, enc_one, enc_len, enc_get43, enc_get47, eqc_get81, eqc_get128, List.length_map, List.length_cons, List.all_cons, one_row, len_row, ba_beqL, bin_rem (show (7 : Int) ≠ 0 by decide), bin_rem (show (1006 : Int) ≠ 0 by decide), tmod7, tmod1006, hw, hm]
    refine hK9 _ _ ?_; try clear hK9 K9
    conv => enter [5]; simp only [setL_cons, setL_nil, List.set_cons_zero, List.set_cons_succ]
    refine AW.cond rfl (fun hc26 => ?_) (fun hc26 => ?_)
    · skip
      have hi1 : i < m := by simpa using hc26
      have hcv := cat_v i
      have hil : i < l.length := by omega
      have hap := app_at (en := VarM.enc) hil (by omega) true 2 24 (by decide)
      have htk : (l.take i).map VarM.enc ++ [.agg [str (vS i), i64 0]] = (l.take (i + 1)).map VarM.enc := by
        rw [← take_at VarM.enc hil, hli i hil]
        rfl
      refine AW.skip ?_
      refine hK8 _ _ ?_; try clear hK8 K8
      refine AW.seq_k fun K10 hK10 => ?_
      refine AW.block ?_
      refine AW.regl false [10] (by rfl) fun K11 hK11 => ?_ -- region 8
      simp only [go_sem, Nat.reduceAdd, Nat.reduceEqDiff, Nat.reduceLeDiff, true_and, ProgM.enc, NodeM.enc, EqM.enc, VarM.enc, enc_one, enc_len, enc_get43, enc_get47, eqc_get81, eqc_get128, List.length_map, List.length_cons, List.all_cons, one_row, len_row, ba_beqL, bin_rem (show (7 : Int) ≠ 0 by decide), bin_rem (show (1006 : Int) ≠ 0 by decide), tmod7, tmod1006, hw, hm, hcv]
      refine sC.of en32 ((number_calls i (by omega)).on _).here (by rfl) ?_
      simp only [go_sem, Nat.reduceAdd, Nat.reduceEqDiff, Nat.reduceLeDiff, true_and, ProgM.enc, NodeM.enc, EqM.enc, VarM.enc, enc_one, enc_len, enc_get43, enc_get47, eqc_get81, eqc_get128, List.length_map, List.length_cons, List.all_cons, one_row, len_row, ba_beqL, bin_rem (show (7 : Int) ≠ 0 by decide), bin_rem (show (1006 : Int) ≠ 0 by decide), tmod7, tmod1006, hw, hm, hcv]
      refine hK11 _ _ ?_; try clear hK11 K11
      conv => enter [5]; simp only [setL_cons, setL_nil, List.set_cons_zero, List.set_cons_succ, upd_none, upd_at]
      refine AW.regl false [34] (by rfl) fun K12 hK12 => ?_ -- region 9
      simp only [go_sem, Nat.reduceAdd, Nat.reduceEqDiff, Nat.reduceLeDiff, true_and, ProgM.enc, NodeM.enc, EqM.enc, VarM.enc, enc_one, enc_len, enc_get43, enc_get47, eqc_get81, eqc_get128, List.length_map, List.length_cons, List.all_cons, one_row, len_row, ba_beqL, bin_rem (show (7 : Int) ≠ 0 by decide), bin_rem (show (1006 : Int) ≠ 0 by decide), tmod7, tmod1006, hw, hm]
      refine hK12 _ _ ?_; try clear hK12 K12
      conv => enter [5]; simp only [setL_cons, setL_nil, List.set_cons_zero, List.set_cons_succ]
      refine AW.block ?_
      refine AW.regl false [35] (by rfl) fun K13 hK13 => ?_ -- region 10
      simp only [go_sem, Nat.reduceAdd, Nat.reduceEqDiff, Nat.reduceLeDiff, true_and, ProgM.enc, NodeM.enc, EqM.enc, VarM.enc, enc_one, enc_len, enc_get43, enc_get47, eqc_get81, eqc_get128, List.length_map, List.length_cons, List.all_cons, one_row, len_row, ba_beqL, bin_rem (show (7 : Int) ≠ 0 by decide), bin_rem (show (1006 : Int) ≠ 0 by decide), tmod7, tmod1006, hw, hm]
      refine hK13 _ _ ?_; try clear hK13 K13
      conv => enter [5]; simp only [setL_cons, setL_nil, List.set_cons_zero, List.set_cons_succ]
      refine AW.cond rfl (fun hc35 => ?_) (fun hc35 => ?_)
      · skip
        exact absurd hc35 (by decide)
      · skip
        refine AW.regl false [48] (by rfl) fun K14 hK14 => ?_ -- region 12
        simp only [go_sem, Nat.reduceAdd, Nat.reduceEqDiff, Nat.reduceLeDiff, true_and, ProgM.enc, NodeM.enc, EqM.enc, VarM.enc, enc_one, enc_len, enc_get43, enc_get47, eqc_get81, eqc_get128, List.length_map, List.length_cons, List.all_cons, one_row, len_row, ba_beqL, bin_rem (show (7 : Int) ≠ 0 by decide), bin_rem (show (1006 : Int) ≠ 0 by decide), tmod7, tmod1006, hw, hm]
        refine hK14 _ _ ?_; try clear hK14 K14
        conv => enter [5]; simp only [setL_cons, setL_nil, List.set_cons_zero, List.set_cons_succ]
        refine AW.cond rfl (fun hc48 => ?_) (fun hc48 => ?_)
        · skip
          exact absurd hc48 (by decide)
        · skip
          refine AW.regl false [56] (by rfl) fun K15 hK15 => ?_ -- region 14
          simp only [go_sem, Nat.reduceAdd, Nat.reduceEqDiff, Nat.reduceLeDiff, true_and, ProgM.enc, NodeM.enc, EqM.enc, VarM.enc, enc_one, enc_len, enc_get43, enc_get47, eqc_get81, eqc_get128, List.length_map, List.length_cons, List.all_cons, one_row, len_row, ba_beqL, bin_rem (show (7 : Int) ≠ 0 by decide), bin_rem (show (1006 : Int) ≠ 0 by decide), tmod7, tmod1006, hw, hm]
          refine hK15 _ _ ?_; try clear hK15 K15
          conv => enter [5]; simp only [setL_cons, setL_nil, List.set_cons_zero, List.set_cons_succ]
          refine AW.cond rfl (fun hc56 => ?_) (fun hc56 => ?_)
          · skip
            exact absurd hc56 (by decide)
          · skip
            refine AW.regl false [64] (by rfl) fun K16 hK16 => ?_ -- region 16
            simp only [go_sem, Nat.reduceAdd, Nat.reduceEqDiff, Nat.reduceLeDiff, true_and, ProgM.enc, NodeM.enc, EqM.enc, VarM.enc, enc_one, enc_len, enc_get43, enc_get47, eqc_get81, eqc_get128, List.length_map, List.length_cons, List.all_cons, one_row, len_row, ba_beqL, bin_rem (show (7 : Int) ≠ 0 by decide), bin_rem (show (1006 : Int) ≠ 0 by decide), tmod7, tmod1006, hw, hm]
            refine hK16 _ _ ?_; try clear hK16 K16
            conv => enter [5]; simp only [setL_cons, setL_nil, List.set_cons_zero, List.set_cons_succ]
            refine AW.cond rfl (fun hc64 => ?_) (fun hc64 => ?_)
            · skip
              refine AW.lastl false [] (by rfl) fun K hK => ?_ -- region 17
              simp only [go_sem, Nat.reduceAdd, Nat.reduceEqDiff, Nat.reduceLeDiff, true_and, ProgM.enc, NodeM.enc, EqM.enc, VarM.enc, enc_one, enc_len, enc_get43, enc_get47, eqc_get81, eqc_get128, List.length_map, List.length_cons, List.all_cons, one_row, len_row, ba_beqL, bin_rem (show (7 : Int) ≠ 0 by decide), bin_rem (show (1006 : Int) ≠ 0 by decide), tmod7, tmod1006, hw, hm, hap, row1_78 _ (.agg [str (vS i), i64 0]) rfl rfl, htk]
              refine hK _ _ fun env' hw => ?_
              simp only [setL_cons, setL_nil, List.set_cons_zero, List.set_cons_succ] at hw
              refine hK10 _ _ (AW.weaken hw ?_); clear hw; try clear hK10 K10
              refine AW.lastl false [9] (by rfl) fun K hK => ?_ -- region 7
              simp only [go_sem, Nat.reduceAdd, Nat.reduceEqDiff, Nat.reduceLeDiff, true_and, ProgM.enc, NodeM.enc, EqM.enc, VarM.enc, enc_one, enc_len, enc_get43, enc_get47, eqc_get81, eqc_get128, List.length_map, List.length_cons, List.all_cons, one_row, len_row, ba_beqL, bin_rem (show (7 : Int) ≠ 0 by decide), bin_rem (show (1006 : Int) ≠ 0 by decide), tmod7, tmod1006, hw, hm]
              refine hK _ _ fun env' hw => ?_
              simp only [setL_cons, setL_nil, List.set_cons_zero, List.set_cons_succ] at hw
              refine ⟨i + 1, by omega, by omega, ?_, by first | rfl | (simp [List.take_append, List.take_of_length_le]; done) | (simp [List.take_append, List.take_of_length_le]; repeat' constructor)⟩
              refine hw.trans ?_
              simp [Wk, wrap_succ hi1 hl0]
              try omega
            · skip
              exact absurd hc64 (by decide)
    · skip
      have hi1 : i = m := by
        have : ¬ i < m := by simpa using hc26
        omega
      refine AW.exit ?_
      refine hK6 _ _ ?_; try clear hK6 K6
      refine AW.seq_k fun K17 hK17 => ?_
      refine AW.still σ.length ((app_get0 σ _).trans rfl) ?_
      simp only [app_set0, List.set_cons_zero, List.map_cons, List.map_nil, still_slo, still_val, still_row, still_sl, still_nil]
      rw [show l.take i = l by rw [hi1, ← hll, List.take_length]]
      refine AW.regl false [133] (by rfl) fun K18 hK18 => ?_ -- region 27
      simp only [go_sem, Nat.reduceAdd, Nat.reduceEqDiff, Nat.reduceLeDiff, true_and, ProgM.enc, NodeM.enc, EqM.enc, VarM.enc, enc_one, enc_len, enc_get43, enc_get47, eqc_get81, eqc_get128, List.length_map, List.length_cons, List.all_cons, one_row, len_row, ba_beqL, bin_rem (show (7 : Int) ≠ 0 by decide), bin_rem (show (1006 : Int) ≠ 0 by decide), tmod7, tmod1006, hw, hm]
      refine hK18 _ _ ?_; try clear hK18 K18
      conv => enter [5]; simp only [setL_cons, setL_nil, List.set_cons_zero, List.set_cons_succ]
      refine AW.cond rfl (fun hc133 => ?_) (fun hc133 => ?_)
      · skip
        exact absurd hc133 (by decide)
      · skip
        refine AW.skip ?_
        refine hK17 _ _ ?_; try clear hK17 K17
        refine AW.seq_k fun K19 hK19 => ?_
        refine AW.regl false [151] (by rfl) fun K20 hK20 => ?_ -- region 29
        simp only [go_sem, Nat.reduceAdd, Nat.reduceEqDiff, Nat.reduceLeDiff, true_and, ProgM.enc, NodeM.enc, EqM.enc, VarM.enc, enc_one, enc_len, enc_get43, enc_get47, eqc_get81, eqc_get128, List.length_map, List.length_cons, List.all_cons, one_row, len_row, ba_beqL, bin_rem (show (7 : Int) ≠ 0 by decide), bin_rem (show (1006 : Int) ≠ 0 by decide), tmod7, tmod1006, hw, hm]
        refine hK20 _ _ ?_; try clear hK20 K20
        conv => enter [5]; simp only [setL_cons, setL_nil, List.set_cons_zero, List.set_cons_succ]
        refine AW.cond rfl (fun hc151 => ?_) (fun hc151 => ?_)
        · skip
          refine AW.lastl false [] (by rfl) fun K hK => ?_ -- region 30
          simp only [go_sem, Nat.reduceAdd, Nat.reduceEqDiff, Nat.reduceLeDiff, true_and, ProgM.enc, NodeM.enc, EqM.enc, VarM.enc, enc_one, enc_len, enc_get43, enc_get47, eqc_get81, eqc_get128, List.length_map, List.length_cons, List.all_cons, one_row, len_row, ba_beqL, bin_rem (show (7 : Int) ≠ 0 by decide), bin_rem (show (1006 : Int) ≠ 0 by decide), tmod7, tmod1006, hw, hm, row1_85 _ (.agg [str ⟨#[102]⟩, .nilsl, .sl 2 [.agg [str ⟨#[98]⟩, i64 0]], rowAV 2 true (l.map VarM.enc), .sl 6 [.agg [.sl 1 [str ⟨#[98]⟩], i64 0, i64 0, i64 1, str ⟨#[]⟩, .nilsl]]]) rfl (by simp only [AV.cells, List.all_cons, List.all_nil, one_row, one_str, one_sl, one_nilsl, Bool.and_true])]
          refine hK _ _ fun env' hw => ?_
          simp only [setL_cons, setL_nil, List.set_cons_zero, List.set_cons_succ] at hw
          refine hK19 _ _ (AW.weaken hw ?_); clear hw; try clear hK19 K19
          rw [hpc]
          refine AW.regl false [11] (by rfl) fun K21 hK21 => ?_ -- region 31
          simp only [go_sem, Nat.reduceAdd, Nat.reduceEqDiff, Nat.reduceLeDiff, true_and, ProgM.enc, NodeM.enc, EqM.enc, VarM.enc, enc_one, enc_len, enc_get43, enc_get47, eqc_get81, eqc_get128, List.length_map, List.length_cons, List.all_cons, one_row, len_row, ba_beqL, bin_rem (show (7 : Int) ≠ 0 by decide), bin_rem (show (1006 : Int) ≠ 0 by decide), tmod7, tmod1006, hw, hm]
          refine sC.of en33 ((oprog_calls p hpk).on _).here (by rfl) ?_
          simp only [go_sem, Nat.reduceAdd, Nat.reduceEqDiff, Nat.reduceLeDiff, true_and, ProgM.enc, NodeM.enc, EqM.enc, VarM.enc, enc_one, enc_len, enc_get43, enc_get47, eqc_get81, eqc_get128, List.length_map, List.length_cons, List.all_cons, one_row, len_row, ba_beqL, bin_rem (show (7 : Int) ≠ 0 by decide), bin_rem (show (1006 : Int) ≠ 0 by decide), tmod7, tmod1006, hw, hm]
          refine hK21 _ _ ?_; try clear hK21 K21
          conv => enter [5]; simp only [setL_cons, setL_nil, List.set_cons_zero, List.set_cons_succ, upd_none, upd_at]
          refine AW.regtdf mixed false 4 (.val (.bool (true))) (by kernel_rfl) (by rfl) ?_ ?_ -- region 32
          · skip
            cases h166 : (((p.nodes.length : Int) == 0))
            · skip
              simp only [go_sem, Nat.reduceAdd, Nat.reduceEqDiff, Nat.reduceLeDiff, true_and, ProgM.enc, NodeM.enc, EqM.enc, VarM.enc, enc_one, enc_len, enc_get43, enc_get47, eqc_get81, eqc_get128, List.length_map, List.length_cons, List.all_cons, one_row, len_row, ba_beqL, bin_rem (show (7 : Int) ≠ 0 by decide), bin_rem (show (1006 : Int) ≠ 0 by decide), tmod7, tmod1006, hw, hm, hya, hza, bin_beql tyBool4, beq_self_eq_true, h166]
              refine qC.of en34 (hR34.on _).here (by rfl) ?_
              simp only [go_sem, Nat.reduceAdd, Nat.reduceEqDiff, Nat.reduceLeDiff, true_and, ProgM.enc, NodeM.enc, EqM.enc, VarM.enc, enc_one, enc_len, enc_get43, enc_get47, eqc_get81, eqc_get128, List.length_map, List.length_cons, List.all_cons, one_row, len_row, ba_beqL, bin_rem (show (7 : Int) ≠ 0 by decide), bin_rem (show (1006 : Int) ≠ 0 by decide), tmod7, tmod1006, hw, hm, hya, hza, bin_beql tyBool4, beq_self_eq_true, h166]
              refine qC.of en35 ((rpright_calls p hpk).on _).here (by rfl) ?_
              simp only [go_sem, Nat.reduceAdd, Nat.reduceEqDiff, Nat.reduceLeDiff, true_and, ProgM.enc, NodeM.enc, EqM.enc, VarM.enc, enc_one, enc_len, enc_get43, enc_get47, eqc_get81, eqc_get128, List.length_map, List.length_cons, List.all_cons, one_row, len_row, ba_beqL, bin_rem (show (7 : Int) ≠ 0 by decide), bin_rem (show (1006 : Int) ≠ 0 by decide), tmod7, tmod1006, hw, hm, hya, hza, bin_beql tyBool4, beq_self_eq_true, h166]
              refine qC.of en36 (hR36.on _).here (by rfl) ?_
              simp only [go_sem, Nat.reduceAdd, Nat.reduceEqDiff, Nat.reduceLeDiff, true_and, ProgM.enc, NodeM.enc, EqM.enc, VarM.enc, enc_one, enc_len, enc_get43, enc_get47, eqc_get81, eqc_get128, List.length_map, List.length_cons, List.all_cons, one_row, len_row, ba_beqL, bin_rem (show (7 : Int) ≠ 0 by decide), bin_rem (show (1006 : Int) ≠ 0 by decide), tmod7, tmod1006, hw, hm, hya, hza, bin_beql tyBool4, beq_self_eq_true, h166]
              refine qC.of en37 ((rnright_calls nd hnd).on _).here (by rfl) ?_
              simp only [go_sem, Nat.reduceAdd, Nat.reduceEqDiff, Nat.reduceLeDiff, true_and, ProgM.enc, NodeM.enc, EqM.enc, VarM.enc, enc_one, enc_len, enc_get43, enc_get47, eqc_get81, eqc_get128, List.length_map, List.length_cons, List.all_cons, one_row, len_row, ba_beqL, bin_rem (show (7 : Int) ≠ 0 by decide), bin_rem (show (1006 : Int) ≠ 0 by decide), tmod7, tmod1006, hw, hm, hya, hza, bin_beql tyBool4, beq_self_eq_true, h166]
              refine qC.of en23 ((aawake_calls hΓ).on _).here (by rfl) ?_
              simp only [go_sem, Nat.reduceAdd, Nat.reduceEqDiff, Nat.reduceLeDiff, true_and, ProgM.enc, NodeM.enc, EqM.enc, VarM.enc, enc_one, enc_len, enc_get43, enc_get47, eqc_get81, eqc_get128, List.length_map, List.length_cons, List.all_cons, one_row, len_row, ba_beqL, bin_rem (show (7 : Int) ≠ 0 by decide), bin_rem (show (1006 : Int) ≠ 0 by decide), tmod7, tmod1006, hw, hm, hya, hza, bin_beql tyBool4, beq_self_eq_true, h166]
              try simp [upd_at, h166, ProgM.enc, NodeM.enc, EqM.enc, VarM.enc, enc_one, enc_len, enc_get43, enc_get47, eqc_get81, eqc_get128, List.length_map, List.length_cons, List.all_cons, one_row, len_row, ba_beqL, bin_rem (show (7 : Int) ≠ 0 by decide), bin_rem (show (1006 : Int) ≠ 0 by decide), tmod7, tmod1006, hw, hm, hya, hza, bin_beql tyBool4, beq_self_eq_true]
            · skip
              simp only [go_sem, Nat.reduceAdd, Nat.reduceEqDiff, Nat.reduceLeDiff, true_and, ProgM.enc, NodeM.enc, EqM.enc, VarM.enc, enc_one, enc_len, enc_get43, enc_get47, eqc_get81, eqc_get128, List.length_map, List.length_cons, List.all_cons, one_row, len_row, ba_beqL, bin_rem (show (7 : Int) ≠ 0 by decide), bin_rem (show (1006 : Int) ≠ 0 by decide), tmod7, tmod1006, hw, hm, hya, hza, bin_beql tyBool4, beq_self_eq_true, h166]
              refine qC.of en34 (hR34.on _).here (by rfl) ?_
              simp only [go_sem, Nat.reduceAdd, Nat.reduceEqDiff, Nat.reduceLeDiff, true_and, ProgM.enc, NodeM.enc, EqM.enc, VarM.enc, enc_one, enc_len, enc_get43, enc_get47, eqc_get81, eqc_get128, List.length_map, List.length_cons, List.all_cons, one_row, len_row, ba_beqL, bin_rem (show (7 : Int) ≠ 0 by decide), bin_rem (show (1006 : Int) ≠ 0 by decide), tmod7, tmod1006, hw, hm, hya, hza, bin_beql tyBool4, beq_self_eq_true, h166]
              refine qC.of en35 ((rpright_calls p hpk).on _).here (by rfl) ?_
              simp only [go_sem, Nat.reduceAdd, Nat.reduceEqDiff, Nat.reduceLeDiff, true_and, ProgM.enc, NodeM.enc, EqM.enc, VarM.enc, enc_one, enc_len, enc_get43, enc_get47, eqc_get81, eqc_get128, List.length_map, List.length_cons, List.all_cons, one_row, len_row, ba_beqL, bin_rem (show (7 : Int) ≠ 0 by decide), bin_rem (show (1006 : Int) ≠ 0 by decide), tmod7, tmod1006, hw, hm, hya, hza, bin_beql tyBool4, beq_self_eq_true, h166]
              refine qC.of en23 ((aawake_calls hΓ).on _).here (by rfl) ?_
              simp only [go_sem, Nat.reduceAdd, Nat.reduceEqDiff, Nat.reduceLeDiff, true_and, ProgM.enc, NodeM.enc, EqM.enc, VarM.enc, enc_one, enc_len, enc_get43, enc_get47, eqc_get81, eqc_get128, List.length_map, List.length_cons, List.all_cons, one_row, len_row, ba_beqL, bin_rem (show (7 : Int) ≠ 0 by decide), bin_rem (show (1006 : Int) ≠ 0 by decide), tmod7, tmod1006, hw, hm, hya, hza, bin_beql tyBool4, beq_self_eq_true, h166]
              try simp [upd_at, h166, ProgM.enc, NodeM.enc, EqM.enc, VarM.enc, enc_one, enc_len, enc_get43, enc_get47, eqc_get81, eqc_get128, List.length_map, List.length_cons, List.all_cons, one_row, len_row, ba_beqL, bin_rem (show (7 : Int) ≠ 0 by decide), bin_rem (show (1006 : Int) ≠ 0 by decide), tmod7, tmod1006, hw, hm, hya, hza, bin_beql tyBool4, beq_self_eq_true]
          conv => enter [5]; simp only [List.set_cons_zero, List.set_cons_succ]
          refine AW.ret ⟨.inr rfl, _, rfl, by simp, ?_⟩ -- return 1
          exact .keep rfl
        · skip
          exact absurd hc151 (by decide)

set_option maxRecDepth 100000 in
set_option maxHeartbeats 1000000 in
theorem lists0 (hΓ : Words Γ) (n x : Nat) (hn : n < 65536) (hx : x < 256) (hw : x % 7 = 0) : APure prog Γ 6 [.val (.int .u16 (n : Nat)), .val (.int .u8 (x : Nat))] (bool true) := by
  refine APure.of func6 rfl fun σ => ?_
  simp only [ntmps6, List.length_cons, List.length_nil, Nat.reduceAdd, Nat.reduceSub, List.replicate_succ, List.replicate_zero, List.cons_append, List.nil_append]
  have hwn : IntKind.wrap .i64 ((n : Nat) : Int) = (n : Nat) := wrap_i64 (by omega) (by omega)
  obtain ⟨m, hm⟩ : ∃ m, n % 1006 = m := ⟨_, rfl⟩
  have hm5 : m ≤ 1005 := by omega
  have hl0 : m ≤ maxLen := by rw [maxLen_eq]; omega
  obtain ⟨l, hll, hli, hlm⟩ := tab_ex (fun i => (⟨vS i, true, [], false, [bN], true, [], false, [q1 sB]⟩ : NodeM)) m
  obtain ⟨p, hpe⟩ : ∃ z : ProgM, z = ⟨true, l⟩ := ⟨_, rfl⟩
  have hpk : p.ok := by
    rw [hpe]
    refine ⟨by show l.length ≤ _; omega, fun x hx => ?_⟩
    obtain ⟨i, rfl⟩ := hlm x hx
    exact ⟨Nat.le_trans (vS_size i) (by omega), nil_ok, bs_ok, nil_ok, eqs1_ok⟩
  have hR34 : APure prog Γ 34 [p.own.enc] (bool p.right) := by rw [← progown_right]; exact pright_calls hΓ p.own (progown_ok hpk)
  have hpc : ([rowAV 5 true (l.map NodeM.enc)] : List AV) = p.enc.cells := by rw [hpe]; rfl
  refine AW.regl false [4] (by rfl) fun K1 hK1 => ?_ -- region 0
  simp only [go_sem, Nat.reduceAdd, Nat.reduceEqDiff, Nat.reduceLeDiff, true_and, ProgM.enc, NodeM.enc, EqM.enc, VarM.enc, enc_one, enc_len, enc_get43, enc_get47, eqc_get81, eqc_get128, List.length_map, List.length_cons, List.all_cons, one_row, len_row, ba_beqL, bin_rem (show (7 : Int) ≠ 0 by decide), bin_rem (show (1006 : Int) ≠ 0 by decide), tmod7, tmod1006, hw, hm]
  refine hK1 _ _ ?_; try clear hK1 K1
  conv => enter [5]; simp only [setL_cons, setL_nil, List.set_cons_zero, List.set_cons_succ]
  refine AW.regl false [5] (by rfl) fun K2 hK2 => ?_ -- region 1
  simp only [go_sem, Nat.reduceAdd, Nat.reduceEqDiff, Nat.reduceLeDiff, true_and, ProgM.enc, NodeM.enc, EqM.enc, VarM.enc, enc_one, enc_len, enc_get43, enc_get47, eqc_get81, eqc_get128, List.length_map, List.length_cons, List.all_cons, one_row, len_row, ba_beqL, bin_rem (show (7 : Int) ≠ 0 by decide), bin_rem (show (1006 : Int) ≠ 0 by decide), tmod7, tmod1006, hw, hm, hwn]
  refine hK2 _ _ ?_; try clear hK2 K2
  conv => enter [5]; simp only [setL_cons, setL_nil, List.set_cons_zero, List.set_cons_succ]
  refine AW.regl false [6] (by rfl) fun K3 hK3 => ?_ -- region 2
  simp only [go_sem, Nat.reduceAdd, Nat.reduceEqDiff, Nat.reduceLeDiff, true_and, ProgM.enc, NodeM.enc, EqM.enc, VarM.enc, enc_one, enc_len, enc_get43, enc_get47, eqc_get81, eqc_get128, List.length_map, List.length_cons, List.all_cons, one_row, len_row, ba_beqL, bin_rem (show (7 : Int) ≠ 0 by decide), bin_rem (show (1006 : Int) ≠ 0 by decide), tmod7, tmod1006, hw, hm]
  refine hK3 _ _ ?_; try clear hK3 K3
  conv => enter [5]; simp only [setL_cons, setL_nil, List.set_cons_zero, List.set_cons_succ]
  refine AW.regl false [7] (by rfl) fun K4 hK4 => ?_ -- region 3
  simp only [go_sem, Nat.reduceAdd, Nat.reduceEqDiff, Nat.reduceLeDiff, true_and, ProgM.enc, NodeM.enc, EqM.enc, VarM.enc, enc_one, enc_len, enc_get43, enc_get47, eqc_get81, eqc_get128, List.length_map, List.length_cons, List.all_cons, one_row, len_row, ba_beqL, bin_rem (show (7 : Int) ≠ 0 by decide), bin_rem (show (1006 : Int) ≠ 0 by decide), tmod7, tmod1006, hw, hm]
  refine hK4 _ _ ?_; try clear hK4 K4
  conv => enter [5]; simp only [setL_cons, setL_nil, List.set_cons_zero, List.set_cons_succ, upd_none, upd_at]
  refine AW.regl false [8] (by rfl) fun K5 hK5 => ?_ -- region 4
  simp only [go_sem, Nat.reduceAdd, Nat.reduceEqDiff, Nat.reduceLeDiff, true_and, ProgM.enc, NodeM.enc, EqM.enc, VarM.enc, enc_one, enc_len, enc_get43, enc_get47, eqc_get81, eqc_get128, List.length_map, List.length_cons, List.all_cons, one_row, len_row, ba_beqL, bin_rem (show (7 : Int) ≠ 0 by decide), bin_rem (show (1006 : Int) ≠ 0 by decide), tmod7, tmod1006, hw, hm]
  refine hK5 _ _ ?_; try clear hK5 K5
  conv => enter [5]; simp only [setL_cons, setL_nil, List.set_cons_zero, List.set_cons_succ, upd_none, upd_at]
  refine AW.seq_k fun K6 hK6 => ?_
  refine AW.regl false [9] (by rfl) fun K7 hK7 => ?_ -- region 5
  simp only [go_sem, Nat.reduceAdd, Nat.reduceEqDiff, Nat.reduceLeDiff, true_and, ProgM.enc, NodeM.enc, EqM.enc, VarM.enc, enc_one, enc_len, enc_get43, enc_get47, eqc_get81, eqc_get128, List.length_map, List.length_cons, List.all_cons, one_row, len_row, ba_beqL, bin_rem (show (7 : Int) ≠ 0 by decide), bin_rem (show (1006 : Int) ≠ 0 by decide), tmod7, tmod1006, hw, hm]
  refine hK7 _ _ ?_; try clear hK7 K7
  conv => enter [5]; simp only [setL_cons, setL_nil, List.set_cons_zero, List.set_cons_succ]
  refine AW.cap 5 ?_
  simp only [List.append_assoc, List.cons_append, List.nil_append]
  refine AW.own (σ.length + 1) 0 (σ.length + 2) ((app_get σ _ 1).trans rfl) rfl ((app_get σ _ 2).trans rfl) (by decide) ?_
  simp only [app_set, List.set_cons_zero, List.set_cons_succ]
  refine AW.block ?_
  refine AW.loop_dr (α := Nat) (fun i => [.any, (.val (.int .u8 ((x : Nat) : Int))), .any, .any, .any, (.val (.int .i64 ((m : Nat) : Int))), (.sl 2 [.agg [str ⟨#[98]⟩, i64 0]]), (.ref σ.length 0), (.ref (σ.length + 1) 0), (.val (.int .i64 ((i : Nat) : Int))), .any, .any, .any, .any, .any, .any, .any, .any, .any, .any, .any, .any, .any, .any, .any, .any, .any, .any, .any, .any, .any, .any, .any, .any, .any, .any, .any, .any, .any, .any, .any, .any, .any, .any, .any, .any, .any, .any, .any, .any, .any, .any, .any, .any, .any, .any, .any, .any, .any, .any, .any, .any, .any, .any, .any, .any, .any, .any, .any, .any, .any, .any, .any, .any, .any, .any, .any, .any, .any, .any, .any, .any, .any, .any, .any, .any, .any, .any, .any, .any, .any, .any, .any, .any, .any, .any, .any, .any, .any, .any, .any, .any, .any, .any, .any, .any, .any, .any, .any, .any, .any, .any, .any, .any, .any, .any, .any, .any, .any, .any, .any, .any, .any, .any, .any, .any, .any, .any, .any, .any, .any, .any, .any, .any, .any, .any, .any, .any, .any, .any, .any, .any, .any, .any, .any, .any, .any, .any, .any, .any, .any, .any, .any, .any, .any, .any, .any, .any, .any, .any, .any, .any, .any, .any, .any, .any, .any, .any, .any, .any, .any, .any, .any, .any, .any, .any, .any, .any, .any, .any, .any, .any, .any, .any]) (fun i => σ ++ [.cells [.val (.string (⟨#[102]⟩)), .nilsl, .sl 2 [.agg [str ⟨#[98]⟩, i64 0]], .nilsl, .sl 6 [.agg [.sl 1 [str ⟨#[98]⟩], i64 0, i64 0, i64 1, str ⟨#[]⟩, .nilsl]]], .cells [.slo true 5 ((l.take i).map NodeM.enc) (σ.length + 2)], .cap i 5]) (fun i => m - i) (fun i => i ≤ m) 0 ?_ ?_ ?_
  · exact ⟨Nat.zero_le _, by simp [Wk], rfl⟩
  · refine fun y _ => ⟨by simp [belL, AV.bel], bel_app σ fun a ha => ?_⟩
    simp only [List.mem_cons, List.not_mem_nil, or_false] at ha
    simp only [List.length_append, List.length_cons, List.length_nil]
    rcases ha with rfl | rfl | rfl
    · rfl
    · simp only [AO.bel, belL, AV.bel, Bool.true_and, Bool.and_true, Bool.and_eq_true, decide_eq_true_eq]
      exact ⟨by omega, belL_map _ _ fun x _ => node_bel x _⟩
    · rfl
  · intro i hi
    refine AW.seq_k fun K8 hK8 => ?_
    refine AW.regl false [26] (by rfl) fun K9 hK9 => ?_ -- region 6
    simp only [go_sem, Nat.reduceAdd, Nat.reduceEqDiff, Nat.reduceLeDiff, true_and, ProgM.enc, NodeM.enc, EqM.enc, VarM.enc, enc_one, enc_len, enc_get43, enc_get47, eqc_get81, eqc_get128, List.length_map, List.length_cons, List.all_cons, one_row, len_row, ba_beqL, bin_rem (show (7 : Int) ≠ 0 by decide), bin_rem (show (1006 : Int) ≠ 0 by decide), tmod7, tmod1006, hw, hm]
    refine hK9 _ _ ?_; try clear hK9 K9
    conv => enter [5]; simp only [setL_cons, setL_nil, List.set_cons_zero, List.set_cons_succ]
    refine AW.cond rfl (fun hc26 => ?_) (fun hc26 => ?_)
    · skip
      have hi1 : i < m := by simpa using hc26
      have hcv := cat_v i
      have hil : i < l.length := by omega
      have hap := app_at (en := NodeM.enc) hil (by omega) true 5 112 (by decide)
      have htk : (l.take i).map NodeM.enc ++ [.agg [str (vS i), .nilsl, .sl 2 [.agg [str ⟨#[98]⟩, i64 0]], .nilsl, .sl 6 [.agg [.sl 1 [str ⟨#[98]⟩], i64 0, i64 0, i64 1, str ⟨#[]⟩, .nilsl]]]] = (l.take (i + 1)).map NodeM.enc := by
        rw [← take_at NodeM.enc hil, hli i hil]
        rfl
      refine AW.skip ?_
      refine hK8 _ _ ?_; try clear hK8 K8
      refine AW.seq_k fun K10 hK10 => ?_
      refine AW.block ?_
      refine AW.regl false [10] (by rfl) fun K11 hK11 => ?_ -- region 8
      simp only [go_sem, Nat.reduceAdd, Nat.reduceEqDiff, Nat.reduceLeDiff, true_and, ProgM.enc, NodeM.enc, EqM.enc, VarM.enc, enc_one, enc_len, enc_get43, enc_get47, eqc_get81, eqc_get128, List.length_map, List.length_cons, List.all_cons, one_row, len_row, ba_beqL, bin_rem (show (7 : Int) ≠ 0 by decide), bin_rem (show (1006 : Int) ≠ 0 by decide), tmod7, tmod1006, hw, hm, hcv]
      refine sC.of en32 ((number_calls i (by omega)).on _).here (by rfl) ?_
      simp only [go_sem, Nat.reduceAdd, Nat.reduceEqDiff, Nat.reduceLeDiff, true_and, ProgM.enc, NodeM.enc, EqM.enc, VarM.enc, enc_one, enc_len, enc_get43, enc_get47, eqc_get81, eqc_get128, List.length_map, List.length_cons, List.all_cons, one_row, len_row, ba_beqL, bin_rem (show (7 : Int) ≠ 0 by decide), bin_rem (show (1006 : Int) ≠ 0 by decide), tmod7, tmod1006, hw, hm, hcv]
      refine hK11 _ _ ?_; try clear hK11 K11
      conv => enter [5]; simp only [setL_cons, setL_nil, List.set_cons_zero, List.set_cons_succ, upd_none, upd_at]
      refine AW.regl false [34] (by rfl) fun K12 hK12 => ?_ -- region 9
      simp only [go_sem, Nat.reduceAdd, Nat.reduceEqDiff, Nat.reduceLeDiff, true_and, ProgM.enc, NodeM.enc, EqM.enc, VarM.enc, enc_one, enc_len, enc_get43, enc_get47, eqc_get81, eqc_get128, List.length_map, List.length_cons, List.all_cons, one_row, len_row, ba_beqL, bin_rem (show (7 : Int) ≠ 0 by decide), bin_rem (show (1006 : Int) ≠ 0 by decide), tmod7, tmod1006, hw, hm]
      refine hK12 _ _ ?_; try clear hK12 K12
      conv => enter [5]; simp only [setL_cons, setL_nil, List.set_cons_zero, List.set_cons_succ]
      refine AW.block ?_
      refine AW.regl false [35] (by rfl) fun K13 hK13 => ?_ -- region 10
      simp only [go_sem, Nat.reduceAdd, Nat.reduceEqDiff, Nat.reduceLeDiff, true_and, ProgM.enc, NodeM.enc, EqM.enc, VarM.enc, enc_one, enc_len, enc_get43, enc_get47, eqc_get81, eqc_get128, List.length_map, List.length_cons, List.all_cons, one_row, len_row, ba_beqL, bin_rem (show (7 : Int) ≠ 0 by decide), bin_rem (show (1006 : Int) ≠ 0 by decide), tmod7, tmod1006, hw, hm]
      refine hK13 _ _ ?_; try clear hK13 K13
      conv => enter [5]; simp only [setL_cons, setL_nil, List.set_cons_zero, List.set_cons_succ]
      refine AW.cond rfl (fun hc35 => ?_) (fun hc35 => ?_)
      · skip
        refine AW.lastl false [] (by rfl) fun K hK => ?_ -- region 11
        simp only [go_sem, Nat.reduceAdd, Nat.reduceEqDiff, Nat.reduceLeDiff, true_and, ProgM.enc, NodeM.enc, EqM.enc, VarM.enc, enc_one, enc_len, enc_get43, enc_get47, eqc_get81, eqc_get128, List.length_map, List.length_cons, List.all_cons, one_row, len_row, ba_beqL, bin_rem (show (7 : Int) ≠ 0 by decide), bin_rem (show (1006 : Int) ≠ 0 by decide), tmod7, tmod1006, hw, hm, hap, row1_85 _ (.agg [str (vS i), .nilsl, .sl 2 [.agg [str ⟨#[98]⟩, i64 0]], .nilsl, .sl 6 [.agg [.sl 1 [str ⟨#[98]⟩], i64 0, i64 0, i64 1, str ⟨#[]⟩, .nilsl]]]) rfl rfl, htk]
        refine hK _ _ fun env' hw => ?_
        simp only [setL_cons, setL_nil, List.set_cons_zero, List.set_cons_succ] at hw
        refine hK10 _ _ (AW.weaken hw ?_); clear hw; try clear hK10 K10
        refine AW.lastl false [9] (by rfl) fun K hK => ?_ -- region 7
        simp only [go_sem, Nat.reduceAdd, Nat.reduceEqDiff, Nat.reduceLeDiff, true_and, ProgM.enc, NodeM.enc, EqM.enc, VarM.enc, enc_one, enc_len, enc_get43, enc_get47, eqc_get81, eqc_get128, List.length_map, List.length_cons, List.all_cons, one_row, len_row, ba_beqL, bin_rem (show (7 : Int) ≠ 0 by decide), bin_rem (show (1006 : Int) ≠ 0 by decide), tmod7, tmod1006, hw, hm]
        refine hK _ _ fun env' hw => ?_
        simp only [setL_cons, setL_nil, List.set_cons_zero, List.set_cons_succ] at hw
        refine ⟨i + 1, by omega, by omega, ?_, by first | rfl | (simp [List.take_append, List.take_of_length_le]; done) | (simp [List.take_append, List.take_of_length_le]; repeat' constructor)⟩
        refine hw.trans ?_
        simp [Wk, wrap_succ hi1 hl0]
        try omega
      · skip
        exact absurd hc35 (by decide)
    · skip
      have hi1 : i = m := by
        have : ¬ i < m := by simpa using hc26
        omega
      refine AW.exit ?_
      refine hK6 _ _ ?_; try clear hK6 K6
      refine AW.seq_k fun K14 hK14 => ?_
      refine AW.still (σ.length + 1) ((app_get σ _ 1).trans rfl) ?_
      simp only [app_set, List.set_cons_zero, List.set_cons_succ, List.map_cons, List.map_nil, still_slo]
      rw [show l.take i = l by rw [hi1, ← hll, List.take_length], hpc]
      refine AW.regl false [133] (by rfl) fun K15 hK15 => ?_ -- region 27
      simp only [go_sem, Nat.reduceAdd, Nat.reduceEqDiff, Nat.reduceLeDiff, true_and, ProgM.enc, NodeM.enc, EqM.enc, VarM.enc, enc_one, enc_len, enc_get43, enc_get47, eqc_get81, eqc_get128, List.length_map, List.length_cons, List.all_cons, one_row, len_row, ba_beqL, bin_rem (show (7 : Int) ≠ 0 by decide), bin_rem (show (1006 : Int) ≠ 0 by decide), tmod7, tmod1006, hw, hm]
      refine hK15 _ _ ?_; try clear hK15 K15
      conv => enter [5]; simp only [setL_cons, setL_nil, List.set_cons_zero, List.set_cons_succ]
      refine AW.cond rfl (fun hc133 => ?_) (fun hc133 => ?_)
      · skip
        exact absurd hc133 (by decide)
      · skip
        refine AW.skip ?_
        refine hK14 _ _ ?_; try clear hK14 K14
        refine AW.seq_k fun K16 hK16 => ?_
        refine AW.regl false [151] (by rfl) fun K17 hK17 => ?_ -- region 29
        simp only [go_sem, Nat.reduceAdd, Nat.reduceEqDiff, Nat.reduceLeDiff, true_and, ProgM.enc, NodeM.enc, EqM.enc, VarM.enc, enc_one, enc_len, enc_get43, enc_get47, eqc_get81, eqc_get128, List.length_map, List.length_cons, List.all_cons, one_row, len_row, ba_beqL, bin_rem (show (7 : Int) ≠ 0 by decide), bin_rem (show (1006 : Int) ≠ 0 by decide), tmod7, tmod1006, hw, hm]
        refine hK17 _ _ ?_; try clear hK17 K17
        conv => enter [5]; simp only [setL_cons, setL_nil, List.set_cons_zero, List.set_cons_succ]
        refine AW.cond rfl (fun hc151 => ?_) (fun hc151 => ?_)
        · skip
          exact absurd hc151 (by decide)
        · skip
          refine AW.skip ?_
          refine hK16 _ _ ?_; try clear hK16 K16
          refine AW.regl false [11] (by rfl) fun K18 hK18 => ?_ -- region 31
          simp only [go_sem, Nat.reduceAdd, Nat.reduceEqDiff, Nat.reduceLeDiff, true_and, ProgM.enc, NodeM.enc, EqM.enc, VarM.enc, enc_one, enc_len, enc_get43, enc_get47, eqc_get81, eqc_get128, List.length_map, List.length_cons, List.all_cons, one_row, len_row, ba_beqL, bin_rem (show (7 : Int) ≠ 0 by decide), bin_rem (show (1006 : Int) ≠ 0 by decide), tmod7, tmod1006, hw, hm]
          refine sC.of en33 ((oprog_calls p hpk).on _).here (by rfl) ?_
          simp only [go_sem, Nat.reduceAdd, Nat.reduceEqDiff, Nat.reduceLeDiff, true_and, ProgM.enc, NodeM.enc, EqM.enc, VarM.enc, enc_one, enc_len, enc_get43, enc_get47, eqc_get81, eqc_get128, List.length_map, List.length_cons, List.all_cons, one_row, len_row, ba_beqL, bin_rem (show (7 : Int) ≠ 0 by decide), bin_rem (show (1006 : Int) ≠ 0 by decide), tmod7, tmod1006, hw, hm]
          refine hK18 _ _ ?_; try clear hK18 K18
          conv => enter [5]; simp only [setL_cons, setL_nil, List.set_cons_zero, List.set_cons_succ, upd_none, upd_at]
          refine AW.regtdf mixed false 4 (.val (.bool (true))) (by kernel_rfl) (by rfl) ?_ ?_ -- region 32
          · skip
            cases h166 : (((p.nodes.length : Int) == 0))
            · skip
              have hpn : p.nodes.length ≠ 0 := fun e => by simp [e] at h166
              obtain ⟨nd, hnde⟩ : ∃ z, p.nodes[0]? = some z := ⟨_, List.getElem?_eq_getElem (by omega)⟩
              have hnd : nd.ok := hpk.2 nd (List.mem_of_getElem? hnde)
              have hya : aAt 5 (rowAV 5 p.own.nl (p.own.nodes.map NodeM.enc)) (.val (.int .i64 0)) = some (.er nd.own.enc.cells) := at_row (i := 0) (by rw [ProgM.own, List.map_map, List.getElem?_map, hnde]; rfl)
              have hza : aAt 5 (rowAV 5 p.nl (p.nodes.map NodeM.enc)) (.val (.int .i64 0)) = some (.er nd.enc.cells) := at_row (i := 0) (by rw [List.getElem?_map, hnde]; rfl)
              have hR36 : APure prog Γ 36 [nd.own.enc] (bool nd.right) := by rw [← nodeown_right]; exact nright_calls hΓ nd.own (nodeown_ok hnd)
              simp only [go_sem, Nat.reduceAdd, Nat.reduceEqDiff, Nat.reduceLeDiff, true_and, ProgM.enc, NodeM.enc, EqM.enc, VarM.enc, enc_one, enc_len, enc_get43, enc_get47, eqc_get81, eqc_get128, List.length_map, List.length_cons, List.all_cons, one_row, len_row, ba_beqL, bin_rem (show (7 : Int) ≠ 0 by decide), bin_rem (show (1006 : Int) ≠ 0 by decide), tmod7, tmod1006, hw, hm, hya, hza, bin_beql tyBool4, beq_self_eq_true, h166]
              refine qC.of en34 (hR34.on _).here (by rfl) ?_
              simp only [go_sem, Nat.reduceAdd, Nat.reduceEqDiff, Nat.reduceLeDiff, true_and, ProgM.enc, NodeM.enc, EqM.enc, VarM.enc, enc_one, enc_len, enc_get43, enc_get47, eqc_get81, eqc_get128, List.length_map, List.length_cons, List.all_cons, one_row, len_row, ba_beqL, bin_rem (show (7 : Int) ≠ 0 by decide), bin_rem (show (1006 : Int) ≠ 0 by decide), tmod7, tmod1006, hw, hm, hya, hza, bin_beql tyBool4, beq_self_eq_true, h166]
              refine qC.of en35 ((rpright_calls p hpk).on _).here (by rfl) ?_
              simp only [go_sem, Nat.reduceAdd, Nat.reduceEqDiff, Nat.reduceLeDiff, true_and, ProgM.enc, NodeM.enc, EqM.enc, VarM.enc, enc_one, enc_len, enc_get43, enc_get47, eqc_get81, eqc_get128, List.length_map, List.length_cons, List.all_cons, one_row, len_row, ba_beqL, bin_rem (show (7 : Int) ≠ 0 by decide), bin_rem (show (1006 : Int) ≠ 0 by decide), tmod7, tmod1006, hw, hm, hya, hza, bin_beql tyBool4, beq_self_eq_true, h166]
              refine qC.of en36 (hR36.on _).here (by rfl) ?_
              simp only [go_sem, Nat.reduceAdd, Nat.reduceEqDiff, Nat.reduceLeDiff, true_and, ProgM.enc, NodeM.enc, EqM.enc, VarM.enc, enc_one, enc_len, enc_get43, enc_get47, eqc_get81, eqc_get128, List.length_map, List.length_cons, List.all_cons, one_row, len_row, ba_beqL, bin_rem (show (7 : Int) ≠ 0 by decide), bin_rem (show (1006 : Int) ≠ 0 by decide), tmod7, tmod1006, hw, hm, hya, hza, bin_beql tyBool4, beq_self_eq_true, h166]
              refine qC.of en37 ((rnright_calls nd hnd).on _).here (by rfl) ?_
              simp only [go_sem, Nat.reduceAdd, Nat.reduceEqDiff, Nat.reduceLeDiff, true_and, ProgM.enc, NodeM.enc, EqM.enc, VarM.enc, enc_one, enc_len, enc_get43, enc_get47, eqc_get81, eqc_get128, List.length_map, List.length_cons, List.all_cons, one_row, len_row, ba_beqL, bin_rem (show (7 : Int) ≠ 0 by decide), bin_rem (show (1006 : Int) ≠ 0 by decide), tmod7, tmod1006, hw, hm, hya, hza, bin_beql tyBool4, beq_self_eq_true, h166]
              refine qC.of en23 ((aawake_calls hΓ).on _).here (by rfl) ?_
              simp only [go_sem, Nat.reduceAdd, Nat.reduceEqDiff, Nat.reduceLeDiff, true_and, ProgM.enc, NodeM.enc, EqM.enc, VarM.enc, enc_one, enc_len, enc_get43, enc_get47, eqc_get81, eqc_get128, List.length_map, List.length_cons, List.all_cons, one_row, len_row, ba_beqL, bin_rem (show (7 : Int) ≠ 0 by decide), bin_rem (show (1006 : Int) ≠ 0 by decide), tmod7, tmod1006, hw, hm, hya, hza, bin_beql tyBool4, beq_self_eq_true, h166]
              try simp [upd_at, h166, ProgM.enc, NodeM.enc, EqM.enc, VarM.enc, enc_one, enc_len, enc_get43, enc_get47, eqc_get81, eqc_get128, List.length_map, List.length_cons, List.all_cons, one_row, len_row, ba_beqL, bin_rem (show (7 : Int) ≠ 0 by decide), bin_rem (show (1006 : Int) ≠ 0 by decide), tmod7, tmod1006, hw, hm, hya, hza, bin_beql tyBool4, beq_self_eq_true]
            · skip
              have hya : True := trivial
              have hza : True := trivial
              simp only [go_sem, Nat.reduceAdd, Nat.reduceEqDiff, Nat.reduceLeDiff, true_and, ProgM.enc, NodeM.enc, EqM.enc, VarM.enc, enc_one, enc_len, enc_get43, enc_get47, eqc_get81, eqc_get128, List.length_map, List.length_cons, List.all_cons, one_row, len_row, ba_beqL, bin_rem (show (7 : Int) ≠ 0 by decide), bin_rem (show (1006 : Int) ≠ 0 by decide), tmod7, tmod1006, hw, hm, hya, hza, bin_beql tyBool4, beq_self_eq_true, h166]
              refine qC.of en34 (hR34.on _).here (by rfl) ?_
              simp only [go_sem, Nat.reduceAdd, Nat.reduceEqDiff, Nat.reduceLeDiff, true_and, ProgM.enc, NodeM.enc, EqM.enc, VarM.enc, enc_one, enc_len, enc_get43, enc_get47, eqc_get81, eqc_get128, List.length_map, List.length_cons, List.all_cons, one_row, len_row, ba_beqL, bin_rem (show (7 : Int) ≠ 0 by decide), bin_rem (show (1006 : Int) ≠ 0 by decide), tmod7, tmod1006, hw, hm, hya, hza, bin_beql tyBool4, beq_self_eq_true, h166]
              refine qC.of en35 ((rpright_calls p hpk).on _).here (by rfl) ?_
              simp only [go_sem, Nat.reduceAdd, Nat.reduceEqDiff, Nat.reduceLeDiff, true_and, ProgM.enc, NodeM.enc, EqM.enc, VarM.enc, enc_one, enc_len, enc_get43, enc_get47, eqc_get81, eqc_get128, List.length_map, List.length_cons, List.all_cons, one_row, len_row, ba_beqL, bin_rem (show (7 : Int) ≠ 0 by decide), bin_rem (show (1006 : Int) ≠ 0 by decide), tmod7, tmod1006, hw, hm, hya, hza, bin_beql tyBool4, beq_self_eq_true, h166]
              refine qC.of en23 ((aawake_calls hΓ).on _).here (by rfl) ?_
              simp only [go_sem, Nat.reduceAdd, Nat.reduceEqDiff, Nat.reduceLeDiff, true_and, ProgM.enc, NodeM.enc, EqM.enc, VarM.enc, enc_one, enc_len, enc_get43, enc_get47, eqc_get81, eqc_get128, List.length_map, List.length_cons, List.all_cons, one_row, len_row, ba_beqL, bin_rem (show (7 : Int) ≠ 0 by decide), bin_rem (show (1006 : Int) ≠ 0 by decide), tmod7, tmod1006, hw, hm, hya, hza, bin_beql tyBool4, beq_self_eq_true, h166]
              try simp [upd_at, h166, ProgM.enc, NodeM.enc, EqM.enc, VarM.enc, enc_one, enc_len, enc_get43, enc_get47, eqc_get81, eqc_get128, List.length_map, List.length_cons, List.all_cons, one_row, len_row, ba_beqL, bin_rem (show (7 : Int) ≠ 0 by decide), bin_rem (show (1006 : Int) ≠ 0 by decide), tmod7, tmod1006, hw, hm, hya, hza, bin_beql tyBool4, beq_self_eq_true]
          conv => enter [5]; simp only [List.set_cons_zero, List.set_cons_succ]
          refine AW.ret ⟨.inr rfl, _, rfl, by simp, ?_⟩ -- return 1
          exact .keep rfl

set_option maxRecDepth 100000 in
set_option maxHeartbeats 1000000 in
theorem lists2 (hΓ : Words Γ) (n x : Nat) (hn : n < 65536) (hx : x < 256) (hw : x % 7 = 2) : APure prog Γ 6 [.val (.int .u16 (n : Nat)), .val (.int .u8 (x : Nat))] (bool true) := by
  refine APure.of func6 rfl fun σ => ?_
  simp only [ntmps6, List.length_cons, List.length_nil, Nat.reduceAdd, Nat.reduceSub, List.replicate_succ, List.replicate_zero, List.cons_append, List.nil_append]
  have hwn : IntKind.wrap .i64 ((n : Nat) : Int) = (n : Nat) := wrap_i64 (by omega) (by omega)
  obtain ⟨m, hm⟩ : ∃ m, n % 1006 = m := ⟨_, rfl⟩
  have hm5 : m ≤ 1005 := by omega
  have hl0 : m ≤ maxLen := by rw [maxLen_eq]; omega
  obtain ⟨l, hll, hli0, hli, hlm⟩ := tab1 bN vN m
  obtain ⟨nd, hnde⟩ : ∃ z : NodeM, z = ⟨sF, true, [], false, l, true, [], false, [q1 sB]⟩ := ⟨_, rfl⟩
  obtain ⟨p, hpe⟩ : ∃ z : ProgM, z = ⟨false, [nd]⟩ := ⟨_, rfl⟩
  have hnd : nd.ok := by
    rw [hnde]
    exact ⟨by show (1 : Nat) ≤ 1100000; omega, nil_ok, vars_ok1 hll hm5 hlm, nil_ok, eqs1_ok⟩
  have hpk : p.ok := by rw [hpe]; exact p1_ok hnd
  have hpn : p.nodes = [nd] := by rw [hpe]
  have hpl : p.nodes.length = 1 := by rw [hpn]; rfl
  have hy0 : (p.own.nodes.map NodeM.enc)[0]? = some nd.own.enc := by rw [ProgM.own, hpn]; rfl
  have hz0 : (p.nodes.map NodeM.enc)[0]? = some nd.enc := by rw [hpn]; rfl
  have hya : aAt 5 (rowAV 5 p.own.nl (p.own.nodes.map NodeM.enc)) (.val (.int .i64 0)) = some (.er nd.own.enc.cells) := at_row (i := 0) hy0
  have hza : aAt 5 (rowAV 5 p.nl (p.nodes.map NodeM.enc)) (.val (.int .i64 0)) = some (.er nd.enc.cells) := at_row (i := 0) hz0
  have hR34 : APure prog Γ 34 [p.own.enc] (bool p.right) := by rw [← progown_right]; exact pright_calls hΓ p.own (progown_ok hpk)
  have hR36 : APure prog Γ 36 [nd.own.enc] (bool nd.right) := by rw [← nodeown_right]; exact nright_calls hΓ nd.own (nodeown_ok hnd)
  have hpc : ([.sl 5 [.agg [str ⟨#[102]⟩, .nilsl, rowAV 2 false (l.map VarM.enc), .nilsl, .sl 6 [.agg [.sl 1 [str ⟨#[98]⟩], i64 0, i64 0, i64 1, str ⟨#[]⟩, .nilsl]]]]] : List AV) = p.enc.cells := by rw [hpe, hnde]; rfl
  refine AW.regl false [4] (by rfl) fun K1 hK1 => ?_ -- region 0
  simp only [go_sem, Nat.reduceAdd, Nat.reduceEqDiff, Nat.reduceLeDiff, true_and, ProgM.enc, NodeM.enc, EqM.enc, VarM.enc, enc_one, enc_len, enc_get43, enc_get47, eqc_get81, eqc_get128, List.length_map, List.length_cons, List.all_cons, one_row, len_row, ba_beqL, bin_rem (show (7 : Int) ≠ 0 by decide), bin_rem (show (1006 : Int) ≠ 0 by decide), tmod7, tmod1006, hw, hm]
  refine hK1 _ _ ?_; try clear hK1 K1
  conv => enter [5]; simp only [setL_cons, setL_nil, List.set_cons_zero, List.set_cons_succ]
  refine AW.regl false [5] (by rfl) fun K2 hK2 => ?_ -- region 1
  simp only [go_sem, Nat.reduceAdd, Nat.reduceEqDiff, Nat.reduceLeDiff, true_and, ProgM.enc, NodeM.enc, EqM.enc, VarM.enc, enc_one, enc_len, enc_get43, enc_get47, eqc_get81, eqc_get128, List.length_map, List.length_cons, List.all_cons, one_row, len_row, ba_beqL, bin_rem (show (7 : Int) ≠ 0 by decide), bin_rem (show (1006 : Int) ≠ 0 by decide), tmod7, tmod1006, hw, hm, hwn]
  refine hK2 _ _ ?_; try clear hK2 K2
  conv => enter [5]; simp only [setL_cons, setL_nil, List.set_cons_zero, List.set_cons_succ]
  refine AW.regl true [6] (by rfl) fun K3 hK3 => ?_ -- region 2
  simp only [go_sem, Nat.reduceAdd, Nat.reduceEqDiff, Nat.reduceLeDiff, true_and, ProgM.enc, NodeM.enc, EqM.enc, VarM.enc, enc_one, enc_len, enc_get43, enc_get47, eqc_get81, eqc_get128, List.length_map, List.length_cons, List.all_cons, one_row, len_row, ba_beqL, bin_rem (show (7 : Int) ≠ 0 by decide), bin_rem (show (1006 : Int) ≠ 0 by decide), tmod7, tmod1006, hw, hm, rowm78 _ (.agg [str ⟨#[98]⟩, i64 0]) rfl rfl]
  refine hK3 _ _ ?_; try clear hK3 K3
  conv => enter [5]; simp only [setL_cons, setL_nil, List.set_cons_zero, List.set_cons_succ]
  refine AW.regl false [7] (by rfl) fun K4 hK4 => ?_ -- region 3
  simp only [go_sem, Nat.reduceAdd, Nat.reduceEqDiff, Nat.reduceLeDiff, true_and, ProgM.enc, NodeM.enc, EqM.enc, VarM.enc, enc_one, enc_len, enc_get43, enc_get47, eqc_get81, eqc_get128, List.length_map, List.length_cons, List.all_cons, one_row, len_row, ba_beqL, bin_rem (show (7 : Int) ≠ 0 by decide), bin_rem (show (1006 : Int) ≠ 0 by decide), tmod7, tmod1006, hw, hm]
  refine hK4 _ _ ?_; try clear hK4 K4
  conv => enter [5]; simp only [setL_cons, setL_nil, List.set_cons_zero, List.set_cons_succ, upd_none, upd_at]
  refine AW.regl false [8] (by rfl) fun K5 hK5 => ?_ -- region 4
  simp only [go_sem, Nat.reduceAdd, Nat.reduceEqDiff, Nat.reduceLeDiff, true_and, ProgM.enc, NodeM.enc, EqM.enc, VarM.enc, enc_one, enc_len, enc_get43, enc_get47, eqc_get81, eqc_get128, List.length_map, List.length_cons, List.all_cons, one_row, len_row, ba_beqL, bin_rem (show (7 : Int) ≠ 0 by decide), bin_rem (show (1006 : Int) ≠ 0 by decide), tmod7, tmod1006, hw, hm]
  refine hK5 _ _ ?_; try clear hK5 K5
  conv => enter [5]; simp only [setL_cons, setL_nil, List.set_cons_zero, List.set_cons_succ, upd_none, upd_at]
  refine AW.seq_k fun K6 hK6 => ?_
  refine AW.regl false [9] (by rfl) fun K7 hK7 => ?_ -- region 5
  simp only [go_sem, Nat.reduceAdd, Nat.reduceEqDiff, Nat.reduceLeDiff, true_and, ProgM.enc, NodeM.enc, EqM.enc, VarM.enc, enc_one, enc_len, enc_get43, enc_get47, eqc_get81, eqc_get128, List.length_map, List.length_cons, List.all_cons, one_row, len_row, ba_beqL, bin_rem (show (7 : Int) ≠ 0 by decide), bin_rem (show (1006 : Int) ≠ 0 by decide), tmod7, tmod1006, hw, hm]
  refine hK7 _ _ ?_; try clear hK7 K7
  conv => enter [5]; simp only [setL_cons, setL_nil, List.set_cons_zero, List.set_cons_succ]
  refine AW.hold σ.length (σ.length + 1) 2 [.agg [str ⟨#[98]⟩, i64 0]] ((app_get σ _ 1).trans rfl) ((app_get0 σ _).trans rfl) rfl rfl rfl (by decide) (fun e he => by rw [List.mem_singleton] at he; rw [he]; rfl) (by decide) (by omega) ?_
  simp only [hold_len, set0, app_set, app_set0, List.cons_append, List.nil_append, List.append_assoc, List.set_cons_zero, List.set_cons_succ, List.length_cons, List.length_nil, Nat.zero_add, Nat.reduceAdd]
  refine AW.block ?_
  refine AW.loop_dr (α := Nat) (fun i => [.any, (.val (.int .u8 ((x : Nat) : Int))), .any, .any, .any, (.val (.int .i64 ((m : Nat) : Int))), (.osl σ.length 0 1 2), (.ref (σ.length + 1) 0), (.ref (σ.length + 2) 0), (.val (.int .i64 ((i : Nat) : Int))), .any, .any, .any, .any, .any, .any, .any, .any, .any, .any, .any, .any, .any, .any, .any, .any, .any, .any, .any, .any, .any, .any, .any, .any, .any, .any, .any, .any, .any, .any, .any, .any, .any, .any, .any, .any, .any, .any, .any, .any, .any, .any, .any, .any, .any, .any, .any, .any, .any, .any, .any, .any, .any, .any, .any, .any, .any, .any, .any, .any, .any, .any, .any, .any, .any, .any, .any, .any, .any, .any, .any, .any, .any, .any, .any, .any, .any, .any, .any, .any, .any, .any, .any, .any, .any, .any, .any, .any, .any, .any, .any, .any, .any, .any, .any, .any, .any, .any, .any, .any, .any, .any, .any, .any, .any, .any, .any, .any, .any, .any, .any, .any, .any, .any, .any, .any, .any, .any, .any, .any, .any, .any, .any, .any, .any, .any, .any, .any, .any, .any, .any, .any, .any, .any, .any, .any, .any, .any, .any, .any, .any, .any, .any, .any, .any, .any, .any, .any, .any, .any, .any, .any, .any, .any, .any, .any, .any, .any, .any, .any, .any, .any, .any, .any, .any, .any, .any, .any, .any, .any, .any, .any, .any, .any]) (fun i => σ ++ [.dead, .cells [.val (.string (⟨#[102]⟩)), .nilsl, .slo false 2 ((l.take (i + 1)).map VarM.enc) (σ.length + 3), .nilsl, .sl 6 [.agg [.sl 1 [str ⟨#[98]⟩], i64 0, i64 0, i64 1, str ⟨#[]⟩, .nilsl]]], .cells [.nilsl], .cap (i + 1) 2]) (fun i => m - i) (fun i => i ≤ m) 0 ?_ ?_ ?_
  · exact ⟨Nat.zero_le _, by simp [Wk], by rw [take1 hli0]; rfl⟩
  · refine fun y hy => ⟨by simp [belL, AV.bel], bel_app σ fun a ha => ?_⟩
    simp only [List.mem_cons, List.not_mem_nil, or_false] at ha
    simp only [List.length_append, List.length_cons, List.length_nil]
    rcases ha with rfl | rfl | rfl | rfl
    · rfl
    · simp only [AO.bel, belL, AV.bel, Bool.true_and, Bool.and_true, Bool.and_eq_true, decide_eq_true_eq]
      exact ⟨by omega, belL_map _ _ fun x _ => var_bel x _⟩
    · rfl
    · rfl
  · intro i hi
    refine AW.seq_k fun K8 hK8 => ?_
    refine AW.regl false [26] (by rfl) fun K9 hK9 => ?_ -- region 6
    simp only [go_sem, Nat.reduceAdd, Nat.reduceEqDiff, Nat.reduceLeDiff, true_and, ProgM.enc, NodeM.enc, EqM.enc, VarM.enc, enc_one, enc_len, enc_get43, enc_get47, eqc_get81, eqc_get128, List.length_map, List.length_cons, List.all_cons, one_row, len_row, ba_beqL, bin_rem (show (7 : Int) ≠ 0 by decide), bin_rem (show (1006 : Int) ≠ 0 by decide), tmod7, tmod1006, hw, hm]
    refine hK9 _ _ ?_; try clear hK9 K9
    conv => enter [5]; simp only [setL_cons, setL_nil, List.set_cons_zero, List.set_cons_succ]
    refine AW.cond rfl (fun hc26 => ?_) (fun hc26 => ?_)
    · skip
      have hi1 : i < m := by simpa using hc26
      have hcv := cat_v i
      have hil : i + 1 < l.length := by omega
      have hap := app_at (en := VarM.enc) hil (by omega) false 2 24 (by decide)
      have htk : (l.take (i + 1)).map VarM.enc ++ [.agg [str (vS i), i64 0]] = (l.take (i + 1 + 1)).map VarM.enc := by
        rw [← take_at VarM.enc hil, hli i hil]
        rfl
      refine AW.skip ?_
      refine hK8 _ _ ?_; try clear hK8 K8
      refine AW.seq_k fun K10 hK10 => ?_
      refine AW.block ?_
      refine AW.regl false [10] (by rfl) fun K11 hK11 => ?_ -- region 8
      simp only [go_sem, Nat.reduceAdd, Nat.reduceEqDiff, Nat.reduceLeDiff, true_and, ProgM.enc, NodeM.enc, EqM.enc, VarM.enc, enc_one, enc_len, enc_get43, enc_get47, eqc_get81, eqc_get128, List.length_map, List.length_cons, List.all_cons, one_row, len_row, ba_beqL, bin_rem (show (7 : Int) ≠ 0 by decide), bin_rem (show (1006 : Int) ≠ 0 by decide), tmod7, tmod1006, hw, hm, hcv]
      refine sC.of en32 ((number_calls i (by omega)).on _).here (by rfl) ?_
      simp only [go_sem, Nat.reduceAdd, Nat.reduceEqDiff, Nat.reduceLeDiff, true_and, ProgM.enc, NodeM.enc, EqM.enc, VarM.enc, enc_one, enc_len, enc_get43, enc_get47, eqc_get81, eqc_get128, List.length_map, List.length_cons, List.all_cons, one_row, len_row, ba_beqL, bin_rem (show (7 : Int) ≠ 0 by decide), bin_rem (show (1006 : Int) ≠ 0 by decide), tmod7, tmod1006, hw, hm, hcv]
      refine hK11 _ _ ?_; try clear hK11 K11
      conv => enter [5]; simp only [setL_cons, setL_nil, List.set_cons_zero, List.set_cons_succ, upd_none, upd_at]
      refine AW.regl false [34] (by rfl) fun K12 hK12 => ?_ -- region 9
      simp only [go_sem, Nat.reduceAdd, Nat.reduceEqDiff, Nat.reduceLeDiff, true_and, ProgM.enc, NodeM.enc, EqM.enc, VarM.enc, enc_one, enc_len, enc_get43, enc_get47, eqc_get81, eqc_get128, List.length_map, List.length_cons, List.all_cons, one_row, len_row, ba_beqL, bin_rem (show (7 : Int) ≠ 0 by decide), bin_rem (show (1006 : Int) ≠ 0 by decide), tmod7, tmod1006, hw, hm]
      refine hK12 _ _ ?_; try clear hK12 K12
      conv => enter [5]; simp only [setL_cons, setL_nil, List.set_cons_zero, List.set_cons_succ]
      refine AW.block ?_
      refine AW.regl false [35] (by rfl) fun K13 hK13 => ?_ -- region 10
      simp only [go_sem, Nat.reduceAdd, Nat.reduceEqDiff, Nat.reduceLeDiff, true_and, ProgM.enc, NodeM.enc, EqM.enc, VarM.enc, enc_one, enc_len, enc_get43, enc_get47, eqc_get81, eqc_get128, List.length_map, List.length_cons, List.all_cons, one_row, len_row, ba_beqL, bin_rem (show (7 : Int) ≠ 0 by decide), bin_rem (show (1006 : Int) ≠ 0 by decide), tmod7, tmod1006, hw, hm]
      refine hK13 _ _ ?_; try clear hK13 K13
      conv => enter [5]; simp only [setL_cons, setL_nil, List.set_cons_zero, List.set_cons_succ]
      refine AW.cond rfl (fun hc35 => ?_) (fun hc35 => ?_)
      · skip
        exact absurd hc35 (by decide)
      · skip
        refine AW.regl false [48] (by rfl) fun K14 hK14 => ?_ -- region 12
        simp only [go_sem, Nat.reduceAdd, Nat.reduceEqDiff, Nat.reduceLeDiff, true_and, ProgM.enc, NodeM.enc, EqM.enc, VarM.enc, enc_one, enc_len, enc_get43, enc_get47, eqc_get81, eqc_get128, List.length_map, List.length_cons, List.all_cons, one_row, len_row, ba_beqL, bin_rem (show (7 : Int) ≠ 0 by decide), bin_rem (show (1006 : Int) ≠ 0 by decide), tmod7, tmod1006, hw, hm]
        refine hK14 _ _ ?_; try clear hK14 K14
        conv => enter [5]; simp only [setL_cons, setL_nil, List.set_cons_zero, List.set_cons_succ]
        refine AW.cond rfl (fun hc48 => ?_) (fun hc48 => ?_)
        · skip
          exact absurd hc48 (by decide)
        · skip
          refine AW.regl false [56] (by rfl) fun K15 hK15 => ?_ -- region 14
          simp only [go_sem, Nat.reduceAdd, Nat.reduceEqDiff, Nat.reduceLeDiff, true_and, ProgM.enc, NodeM.enc, EqM.enc, VarM.enc, enc_one, enc_len, enc_get43, enc_get47, eqc_get81, eqc_get128, List.length_map, List.length_cons, List.all_cons, one_row, len_row, ba_beqL, bin_rem (show (7 : Int) ≠ 0 by decide), bin_rem (show (1006 : Int) ≠ 0 by decide), tmod7, tmod1006, hw, hm]
          refine hK15 _ _ ?_; try clear hK15 K15
          conv => enter [5]; simp only [setL_cons, setL_nil, List.set_cons_zero, List.set_cons_succ]
          refine AW.cond rfl (fun hc56 => ?_) (fun hc56 => ?_)
          · skip
            refine AW.lastl false [] (by rfl) fun K hK => ?_ -- region 15
            simp only [go_sem, Nat.reduceAdd, Nat.reduceEqDiff, Nat.reduceLeDiff, true_and, ProgM.enc, NodeM.enc, EqM.enc, VarM.enc, enc_one, enc_len, enc_get43, enc_get47, eqc_get81, eqc_get128, List.length_map, List.length_cons, List.all_cons, one_row, len_row, ba_beqL, bin_rem (show (7 : Int) ≠ 0 by decide), bin_rem (show (1006 : Int) ≠ 0 by decide), tmod7, tmod1006, hw, hm, hap, row1_78 _ (.agg [str (vS i), i64 0]) rfl rfl, htk]
            refine hK _ _ fun env' hw => ?_
            simp only [setL_cons, setL_nil, List.set_cons_zero, List.set_cons_succ] at hw
            refine hK10 _ _ (AW.weaken hw ?_); clear hw; try clear hK10 K10
            refine AW.lastl false [9] (by rfl) fun K hK => ?_ -- region 7
            simp only [go_sem, Nat.reduceAdd, Nat.reduceEqDiff, Nat.reduceLeDiff, true_and, ProgM.enc, NodeM.enc, EqM.enc, VarM.enc, enc_one, enc_len, enc_get43, enc_get47, eqc_get81, eqc_get128, List.length_map, List.length_cons, List.all_cons, one_row, len_row, ba_beqL, bin_rem (show (7 : Int) ≠ 0 by decide), bin_rem (show (1006 : Int) ≠ 0 by decide), tmod7, tmod1006, hw, hm]
            refine hK _ _ fun env' hw => ?_
            simp only [setL_cons, setL_nil, List.set_cons_zero, List.set_cons_succ] at hw
            refine ⟨i + 1, by omega, by omega, ?_, by first | rfl | (simp [List.take_append, List.take_of_length_le]; done) | (simp [List.take_append, List.take_of_length_le]; repeat' constructor)⟩
            refine hw.trans ?_
            simp [Wk, wrap_succ hi1 hl0]
            try omega
          · skip
            exact absurd hc56 (by decide)
    · skip
      have hi1 : i = m := by
        have : ¬ i < m := by simpa using hc26
        omega
      refine AW.exit ?_
      refine hK6 _ _ ?_; try clear hK6 K6
      refine AW.seq_k fun K16 hK16 => ?_
      refine AW.still (σ.length + 1) ((app_get σ _ 1).trans rfl) ?_
      simp only [app_set, List.set_cons_zero, List.set_cons_succ, List.map_cons, List.map_nil, still_slof, still_val, still_row, still_sl, still_nil]
      rw [show l.take (i + 1) = l by rw [hi1, ← hll, List.take_length]]
      refine AW.regl false [133] (by rfl) fun K17 hK17 => ?_ -- region 27
      simp only [go_sem, Nat.reduceAdd, Nat.reduceEqDiff, Nat.reduceLeDiff, true_and, ProgM.enc, NodeM.enc, EqM.enc, VarM.enc, enc_one, enc_len, enc_get43, enc_get47, eqc_get81, eqc_get128, List.length_map, List.length_cons, List.all_cons, one_row, len_row, ba_beqL, bin_rem (show (7 : Int) ≠ 0 by decide), bin_rem (show (1006 : Int) ≠ 0 by decide), tmod7, tmod1006, hw, hm]
      refine hK17 _ _ ?_; try clear hK17 K17
      conv => enter [5]; simp only [setL_cons, setL_nil, List.set_cons_zero, List.set_cons_succ]
      refine AW.cond rfl (fun hc133 => ?_) (fun hc133 => ?_)
      · skip
        exact absurd hc133 (by decide)
      · skip
        refine AW.skip ?_
        refine hK16 _ _ ?_; try clear hK16 K16
        refine AW.seq_k fun K18 hK18 => ?_
        refine AW.regl false [151] (by rfl) fun K19 hK19 => ?_ -- region 29
        simp only [go_sem, Nat.reduceAdd, Nat.reduceEqDiff, Nat.reduceLeDiff, true_and, ProgM.enc, NodeM.enc, EqM.enc, VarM.enc, enc_one, enc_len, enc_get43, enc_get47, eqc_get81, eqc_get128, List.length_map, List.length_cons, List.all_cons, one_row, len_row, ba_beqL, bin_rem (show (7 : Int) ≠ 0 by decide), bin_rem (show (1006 : Int) ≠ 0 by decide), tmod7, tmod1006, hw, hm]
        refine hK19 _ _ ?_; try clear hK19 K19
        conv => enter [5]; simp only [setL_cons, setL_nil, List.set_cons_zero, List.set_cons_succ]
        refine AW.cond rfl (fun hc151 => ?_) (fun hc151 => ?_)
        · skip
          refine AW.lastl false [] (by rfl) fun K hK => ?_ -- region 30
          simp only [go_sem, Nat.reduceAdd, Nat.reduceEqDiff, Nat.reduceLeDiff, true_and, ProgM.enc, NodeM.enc, EqM.enc, VarM.enc, enc_one, enc_len, enc_get43, enc_get47, eqc_get81, eqc_get128, List.length_map, List.length_cons, List.all_cons, one_row, len_row, ba_beqL, bin_rem (show (7 : Int) ≠ 0 by decide), bin_rem (show (1006 : Int) ≠ 0 by decide), tmod7, tmod1006, hw, hm, row1_85 _ (.agg [str ⟨#[102]⟩, .nilsl, rowAV 2 false (l.map VarM.enc), .nilsl, .sl 6 [.agg [.sl 1 [str ⟨#[98]⟩], i64 0, i64 0, i64 1, str ⟨#[]⟩, .nilsl]]]) rfl (by simp only [AV.cells, List.all_cons, List.all_nil, one_row, one_str, one_sl, one_nilsl, Bool.and_true])]
          refine hK _ _ fun env' hw => ?_
          simp only [setL_cons, setL_nil, List.set_cons_zero, List.set_cons_succ] at hw
          refine hK18 _ _ (AW.weaken hw ?_); clear hw; try clear hK18 K18
          rw [hpc]
          refine AW.regl false [11] (by rfl) fun K20 hK20 => ?_ -- region 31
          simp only [go_sem, Nat.reduceAdd, Nat.reduceEqDiff, Nat.reduceLeDiff, true_and, ProgM.enc, NodeM.enc, EqM.enc, VarM.enc, enc_one, enc_len, enc_get43, enc_get47, eqc_get81, eqc_get128, List.length_map, List.length_cons, List.all_cons, one_row, len_row, ba_beqL, bin_rem (show (7 : Int) ≠ 0 by decide), bin_rem (show (1006 : Int) ≠ 0 by decide), tmod7, tmod1006, hw, hm]
          refine sC.of en33 ((oprog_calls p hpk).on _).here (by rfl) ?_
          simp only [go_sem, Nat.reduceAdd, Nat.reduceEqDiff, Nat.reduceLeDiff, true_and, ProgM.enc, NodeM.enc, EqM.enc, VarM.enc, enc_one, enc_len, enc_get43, enc_get47, eqc_get81, eqc_get128, List.length_map, List.length_cons, List.all_cons, one_row, len_row, ba_beqL, bin_rem (show (7 : Int) ≠ 0 by decide), bin_rem (show (1006 : Int) ≠ 0 by decide), tmod7, tmod1006, hw, hm]
          refine hK20 _ _ ?_; try clear hK20 K20
          conv => enter [5]; simp only [setL_cons, setL_nil, List.set_cons_zero, List.set_cons_succ, upd_none, upd_at]
          refine AW.regtdf mixed false 4 (.val (.bool (true))) (by kernel_rfl) (by rfl) ?_ ?_ -- region 32
          · skip
            cases h166 : (((p.nodes.length : Int) == 0))
            · skip
              simp only [go_sem, Nat.reduceAdd, Nat.reduceEqDiff, Nat.reduceLeDiff, true_and, ProgM.enc, NodeM.enc, EqM.enc, VarM.enc, enc_one, enc_len, enc_get43, enc_get47, eqc_get81, eqc_get128, List.length_map, List.length_cons, List.all_cons, one_row, len_row, ba_beqL, bin_rem (show (7 : Int) ≠ 0 by decide), bin_rem (show (1006 : Int) ≠ 0 by decide), tmod7, tmod1006, hw, hm, hya, hza, bin_beql tyBool4, beq_self_eq_true, h166]
              refine qC.of en34 (hR34.on _).here (by rfl) ?_
              simp only [go_sem, Nat.reduceAdd, Nat.reduceEqDiff, Nat.reduceLeDiff, true_and, ProgM.enc, NodeM.enc, EqM.enc, VarM.enc, enc_one, enc_len, enc_get43, enc_get47, eqc_get81, eqc_get128, List.length_map, List.length_cons, List.all_cons, one_row, len_row, ba_beqL, bin_rem (show (7 : Int) ≠ 0 by decide), bin_rem (show (1006 : Int) ≠ 0 by decide), tmod7, tmod1006, hw, hm, hya, hza, bin_beql tyBool4, beq_self_eq_true, h166]
              refine qC.of en35 ((rpright_calls p hpk).on _).here (by rfl) ?_
              simp only [go_sem, Nat.reduceAdd, Nat.reduceEqDiff, Nat.reduceLeDiff, true_and, ProgM.enc, NodeM.enc, EqM.enc, VarM.enc, enc_one, enc_len, enc_get43, enc_get47, eqc_get81, eqc_get128, List.length_map, List.length_cons, List.all_cons, one_row, len_row, ba_beqL, bin_rem (show (7 : Int) ≠ 0 by decide), bin_rem (show (1006 : Int) ≠ 0 by decide), tmod7, tmod1006, hw, hm, hya, hza, bin_beql tyBool4, beq_self_eq_true, h166]
              refine qC.of en36 (hR36.on _).here (by rfl) ?_
              simp only [go_sem, Nat.reduceAdd, Nat.reduceEqDiff, Nat.reduceLeDiff, true_and, ProgM.enc, NodeM.enc, EqM.enc, VarM.enc, enc_one, enc_len, enc_get43, enc_get47, eqc_get81, eqc_get128, List.length_map, List.length_cons, List.all_cons, one_row, len_row, ba_beqL, bin_rem (show (7 : Int) ≠ 0 by decide), bin_rem (show (1006 : Int) ≠ 0 by decide), tmod7, tmod1006, hw, hm, hya, hza, bin_beql tyBool4, beq_self_eq_true, h166]
              refine qC.of en37 ((rnright_calls nd hnd).on _).here (by rfl) ?_
              simp only [go_sem, Nat.reduceAdd, Nat.reduceEqDiff, Nat.reduceLeDiff, true_and, ProgM.enc, NodeM.enc, EqM.enc, VarM.enc, enc_one, enc_len, enc_get43, enc_get47, eqc_get81, eqc_get128, List.length_map, List.length_cons, List.all_cons, one_row, len_row, ba_beqL, bin_rem (show (7 : Int) ≠ 0 by decide), bin_rem (show (1006 : Int) ≠ 0 by decide), tmod7, tmod1006, hw, hm, hya, hza, bin_beql tyBool4, beq_self_eq_true, h166]
              refine qC.of en23 ((aawake_calls hΓ).on _).here (by rfl) ?_
              simp only [go_sem, Nat.reduceAdd, Nat.reduceEqDiff, Nat.reduceLeDiff, true_and, ProgM.enc, NodeM.enc, EqM.enc, VarM.enc, enc_one, enc_len, enc_get43, enc_get47, eqc_get81, eqc_get128, List.length_map, List.length_cons, List.all_cons, one_row, len_row, ba_beqL, bin_rem (show (7 : Int) ≠ 0 by decide), bin_rem (show (1006 : Int) ≠ 0 by decide), tmod7, tmod1006, hw, hm, hya, hza, bin_beql tyBool4, beq_self_eq_true, h166]
              try simp [upd_at, h166, ProgM.enc, NodeM.enc, EqM.enc, VarM.enc, enc_one, enc_len, enc_get43, enc_get47, eqc_get81, eqc_get128, List.length_map, List.length_cons, List.all_cons, one_row, len_row, ba_beqL, bin_rem (show (7 : Int) ≠ 0 by decide), bin_rem (show (1006 : Int) ≠ 0 by decide), tmod7, tmod1006, hw, hm, hya, hza, bin_beql tyBool4, beq_self_eq_true]
            · skip
              simp only [go_sem, Nat.reduceAdd, Nat.reduceEqDiff, Nat.reduceLeDiff, true_and, ProgM.enc, NodeM.enc, EqM.enc, VarM.enc, enc_one, enc_len, enc_get43, enc_get47, eqc_get81, eqc_get128, List.length_map, List.length_cons, List.all_cons, one_row, len_row, ba_beqL, bin_rem (show (7 : Int) ≠ 0 by decide), bin_rem (show (1006 : Int) ≠ 0 by decide), tmod7, tmod1006, hw, hm, hya, hza, bin_beql tyBool4, beq_self_eq_true, h166]
              refine qC.of en34 (hR34.on _).here (by rfl) ?_
              simp only [go_sem, Nat.reduceAdd, Nat.reduceEqDiff, Nat.reduceLeDiff, true_and, ProgM.enc, NodeM.enc, EqM.enc, VarM.enc, enc_one, enc_len, enc_get43, enc_get47, eqc_get81, eqc_get128, List.length_map, List.length_cons, List.all_cons, one_row, len_row, ba_beqL, bin_rem (show (7 : Int) ≠ 0 by decide), bin_rem (show (1006 : Int) ≠ 0 by decide), tmod7, tmod1006, hw, hm, hya, hza, bin_beql tyBool4, beq_self_eq_true, h166]
              refine qC.of en35 ((rpright_calls p hpk).on _).here (by rfl) ?_
              simp only [go_sem, Nat.reduceAdd, Nat.reduceEqDiff, Nat.reduceLeDiff, true_and, ProgM.enc, NodeM.enc, EqM.enc, VarM.enc, enc_one, enc_len, enc_get43, enc_get47, eqc_get81, eqc_get128, List.length_map, List.length_cons, List.all_cons, one_row, len_row, ba_beqL, bin_rem (show (7 : Int) ≠ 0 by decide), bin_rem (show (1006 : Int) ≠ 0 by decide), tmod7, tmod1006, hw, hm, hya, hza, bin_beql tyBool4, beq_self_eq_true, h166]
              refine qC.of en23 ((aawake_calls hΓ).on _).here (by rfl) ?_
              simp only [go_sem, Nat.reduceAdd, Nat.reduceEqDiff, Nat.reduceLeDiff, true_and, ProgM.enc, NodeM.enc, EqM.enc, VarM.enc, enc_one, enc_len, enc_get43, enc_get47, eqc_get81, eqc_get128, List.length_map, List.length_cons, List.all_cons, one_row, len_row, ba_beqL, bin_rem (show (7 : Int) ≠ 0 by decide), bin_rem (show (1006 : Int) ≠ 0 by decide), tmod7, tmod1006, hw, hm, hya, hza, bin_beql tyBool4, beq_self_eq_true, h166]
              try simp [upd_at, h166, ProgM.enc, NodeM.enc, EqM.enc, VarM.enc, enc_one, enc_len, enc_get43, enc_get47, eqc_get81, eqc_get128, List.length_map, List.length_cons, List.all_cons, one_row, len_row, ba_beqL, bin_rem (show (7 : Int) ≠ 0 by decide), bin_rem (show (1006 : Int) ≠ 0 by decide), tmod7, tmod1006, hw, hm, hya, hza, bin_beql tyBool4, beq_self_eq_true]
          conv => enter [5]; simp only [List.set_cons_zero, List.set_cons_succ]
          refine AW.ret ⟨.inr rfl, _, rfl, by simp, ?_⟩ -- return 1
          exact .keep rfl
        · skip
          exact absurd hc151 (by decide)

set_option maxRecDepth 100000 in
set_option maxHeartbeats 1000000 in
theorem lists4 (hΓ : Words Γ) (n x : Nat) (hn : n < 65536) (hx : x < 256) (hw : x % 7 = 4) : APure prog Γ 6 [.val (.int .u16 (n : Nat)), .val (.int .u8 (x : Nat))] (bool true) := by
  refine APure.of func6 rfl fun σ => ?_
  simp only [ntmps6, List.length_cons, List.length_nil, Nat.reduceAdd, Nat.reduceSub, List.replicate_succ, List.replicate_zero, List.cons_append, List.nil_append]
  have hwn : IntKind.wrap .i64 ((n : Nat) : Int) = (n : Nat) := wrap_i64 (by omega) (by omega)
  obtain ⟨m, hm⟩ : ∃ m, n % 1006 = m := ⟨_, rfl⟩
  have hm5 : m ≤ 1005 := by omega
  have hl0 : m ≤ maxLen := by rw [maxLen_eq]; omega
  obtain ⟨l, hll, hli0, hli, hlm⟩ := tab1 (q1 sB) (fun i => q1 (vS i)) m
  obtain ⟨nd, hnde⟩ : ∃ z : NodeM, z = ⟨sF, true, [], false, [bN], true, [], false, l⟩ := ⟨_, rfl⟩
  obtain ⟨p, hpe⟩ : ∃ z : ProgM, z = ⟨false, [nd]⟩ := ⟨_, rfl⟩
  have hnd : nd.ok := by
    rw [hnde]
    exact ⟨by show (1 : Nat) ≤ 1100000; omega, nil_ok, bs_ok, nil_ok, by show l.length ≤ _; omega, fun q hq => by
      rcases hlm q hq with rfl | ⟨i, rfl⟩
      · exact q1_ok (by show (1 : Nat) ≤ 1100000; omega)
      · exact q1_ok (by have := vS_size i; omega)⟩
  have hpk : p.ok := by rw [hpe]; exact p1_ok hnd
  have hpn : p.nodes = [nd] := by rw [hpe]
  have hpl : p.nodes.length = 1 := by rw [hpn]; rfl
  have hy0 : (p.own.nodes.map NodeM.enc)[0]? = some nd.own.enc := by rw [ProgM.own, hpn]; rfl
  have hz0 : (p.nodes.map NodeM.enc)[0]? = some nd.enc := by rw [hpn]; rfl
  have hya : aAt 5 (rowAV 5 p.own.nl (p.own.nodes.map NodeM.enc)) (.val (.int .i64 0)) = some (.er nd.own.enc.cells) := at_row (i := 0) hy0
  have hza : aAt 5 (rowAV 5 p.nl (p.nodes.map NodeM.enc)) (.val (.int .i64 0)) = some (.er nd.enc.cells) := at_row (i := 0) hz0
  have hR34 : APure prog Γ 34 [p.own.enc] (bool p.right) := by rw [← progown_right]; exact pright_calls hΓ p.own (progown_ok hpk)
  have hR36 : APure prog Γ 36 [nd.own.enc] (bool nd.right) := by rw [← nodeown_right]; exact nright_calls hΓ nd.own (nodeown_ok hnd)
  have hpc : ([.sl 5 [.agg [str ⟨#[102]⟩, .nilsl, .sl 2 [.agg [str ⟨#[98]⟩, i64 0]], .nilsl, rowAV 6 false (l.map EqM.enc)]]] : List AV) = p.enc.cells := by rw [hpe, hnde]; rfl
  refine AW.regl false [4] (by rfl) fun K1 hK1 => ?_ -- region 0
  simp only [go_sem, Nat.reduceAdd, Nat.reduceEqDiff, Nat.reduceLeDiff, true_and, ProgM.enc, NodeM.enc, EqM.enc, VarM.enc, enc_one, enc_len, enc_get43, enc_get47, eqc_get81, eqc_get128, List.length_map, List.length_cons, List.all_cons, one_row, len_row, ba_beqL, bin_rem (show (7 : Int) ≠ 0 by decide), bin_rem (show (1006 : Int) ≠ 0 by decide), tmod7, tmod1006, hw, hm]
  refine hK1 _ _ ?_; try clear hK1 K1
  conv => enter [5]; simp only [setL_cons, setL_nil, List.set_cons_zero, List.set_cons_succ]
  refine AW.regl false [5] (by rfl) fun K2 hK2 => ?_ -- region 1
  simp only [go_sem, Nat.reduceAdd, Nat.reduceEqDiff, Nat.reduceLeDiff, true_and, ProgM.enc, NodeM.enc, EqM.enc, VarM.enc, enc_one, enc_len, enc_get43, enc_get47, eqc_get81, eqc_get128, List.length_map, List.length_cons, List.all_cons, one_row, len_row, ba_beqL, bin_rem (show (7 : Int) ≠ 0 by decide), bin_rem (show (1006 : Int) ≠ 0 by decide), tmod7, tmod1006, hw, hm, hwn]
  refine hK2 _ _ ?_; try clear hK2 K2
  conv => enter [5]; simp only [setL_cons, setL_nil, List.set_cons_zero, List.set_cons_succ]
  refine AW.regl false [6] (by rfl) fun K3 hK3 => ?_ -- region 2
  simp only [go_sem, Nat.reduceAdd, Nat.reduceEqDiff, Nat.reduceLeDiff, true_and, ProgM.enc, NodeM.enc, EqM.enc, VarM.enc, enc_one, enc_len, enc_get43, enc_get47, eqc_get81, eqc_get128, List.length_map, List.length_cons, List.all_cons, one_row, len_row, ba_beqL, bin_rem (show (7 : Int) ≠ 0 by decide), bin_rem (show (1006 : Int) ≠ 0 by decide), tmod7, tmod1006, hw, hm]
  refine hK3 _ _ ?_; try clear hK3 K3
  conv => enter [5]; simp only [setL_cons, setL_nil, List.set_cons_zero, List.set_cons_succ]
  refine AW.regl true [7] (by rfl) fun K4 hK4 => ?_ -- region 3
  simp only [go_sem, Nat.reduceAdd, Nat.reduceEqDiff, Nat.reduceLeDiff, true_and, ProgM.enc, NodeM.enc, EqM.enc, VarM.enc, enc_one, enc_len, enc_get43, enc_get47, eqc_get81, eqc_get128, List.length_map, List.length_cons, List.all_cons, one_row, len_row, ba_beqL, bin_rem (show (7 : Int) ≠ 0 by decide), bin_rem (show (1006 : Int) ≠ 0 by decide), tmod7, tmod1006, hw, hm, rowm79 _ (str ⟨#[98]⟩) rfl rfl, rowm82 _ (.agg [.osl σ.length 0 1 1, i64 0, i64 0, i64 1, str ⟨#[]⟩, .nilsl]) rfl rfl, hold_len, List.append_assoc, List.cons_append, List.nil_append]
  refine hK4 _ _ ?_; try clear hK4 K4
  conv => enter [5]; simp only [setL_cons, setL_nil, List.set_cons_zero, List.set_cons_succ, upd_none, upd_at]
  refine AW.regl false [8] (by rfl) fun K5 hK5 => ?_ -- region 4
  simp only [go_sem, Nat.reduceAdd, Nat.reduceEqDiff, Nat.reduceLeDiff, true_and, ProgM.enc, NodeM.enc, EqM.enc, VarM.enc, enc_one, enc_len, enc_get43, enc_get47, eqc_get81, eqc_get128, List.length_map, List.length_cons, List.all_cons, one_row, len_row, ba_beqL, bin_rem (show (7 : Int) ≠ 0 by decide), bin_rem (show (1006 : Int) ≠ 0 by decide), tmod7, tmod1006, hw, hm]
  refine hK5 _ _ ?_; try clear hK5 K5
  conv => enter [5]; simp only [setL_cons, setL_nil, List.set_cons_zero, List.set_cons_succ, upd_none, upd_at]
  refine AW.seq_k fun K6 hK6 => ?_
  refine AW.regl false [9] (by rfl) fun K7 hK7 => ?_ -- region 5
  simp only [go_sem, Nat.reduceAdd, Nat.reduceEqDiff, Nat.reduceLeDiff, true_and, ProgM.enc, NodeM.enc, EqM.enc, VarM.enc, enc_one, enc_len, enc_get43, enc_get47, eqc_get81, eqc_get128, List.length_map, List.length_cons, List.all_cons, one_row, len_row, ba_beqL, bin_rem (show (7 : Int) ≠ 0 by decide), bin_rem (show (1006 : Int) ≠ 0 by decide), tmod7, tmod1006, hw, hm]
  refine hK7 _ _ ?_; try clear hK7 K7
  conv => enter [5]; simp only [setL_cons, setL_nil, List.set_cons_zero, List.set_cons_succ]
  refine AW.freeze σ.length σ.length 1 1 [str ⟨#[98]⟩] ((app_get0 σ _).trans rfl) rfl rfl (fun e he => by rw [List.mem_singleton] at he; rw [he]; rfl) ?_
  rw [set0, subFrom_app]
  conv => enter [5]; simp only [subL, AV.sub]
  conv => enter [6]; simp only [List.map_cons, List.map_nil, AO.sub, subL, AV.sub, eq_self, and_self, if_true, succ_ne, two_ne, false_and, if_false]
  refine AW.hold (σ.length + 1) (σ.length + 2) 4 [.agg [.sl 1 [str ⟨#[98]⟩], i64 0, i64 0, i64 1, str ⟨#[]⟩, .nilsl]] ((app_get σ _ 2).trans rfl) ((app_get σ _ 1).trans rfl) rfl rfl rfl (by decide) (fun e he => by rw [List.mem_singleton] at he; rw [he]; rfl) (by decide) (by omega) ?_
  simp only [hold_len, set0, app_set, app_set0, List.cons_append, List.nil_append, List.append_assoc, List.set_cons_zero, List.set_cons_succ, List.length_cons, List.length_nil, Nat.zero_add, Nat.reduceAdd]
  refine AW.block ?_
  refine AW.loop_dr (α := Nat) (fun i => [.any, (.val (.int .u8 ((x : Nat) : Int))), .any, .any, .any, (.val (.int .i64 ((m : Nat) : Int))), (.sl 2 [.agg [str ⟨#[98]⟩, i64 0]]), (.ref (σ.length + 2) 0), (.ref (σ.length + 3) 0), (.val (.int .i64 ((i : Nat) : Int))), .any, .any, .any, .any, .any, .any, .any, .any, .any, .any, .any, .any, .any, .any, .any, .any, .any, .any, .any, .any, .any, .any, .any, .any, .any, .any, .any, .any, .any, .any, .any, .any, .any, .any, .any, .any, .any, .any, .any, .any, .any, .any, .any, .any, .any, .any, .any, .any, .any, .any, .any, .any, .any, .any, .any, .any, .any, .any, .any, .any, .any, .any, .any, .any, .any, .any, .any, .any, .any, .any, .any, .any, .any, .any, .any, .any, .any, .any, .any, .any, .any, .any, .any, .any, .any, .any, .any, .any, .any, .any, .any, .any, .any, .any, .any, .any, .any, .any, .any, .any, .any, .any, .any, .any, .any, .any, .any, .any, .any, .any, .any, .any, .any, .any, .any, .any, .any, .any, .any, .any, .any, .any, .any, .any, .any, .any, .any, .any, .any, .any, .any, .any, .any, .any, .any, .any, .any, .any, .any, .any, .any, .any, .any, .any, .any, .any, .any, .any, .any, .any, .any, .any, .any, .any, .any, .any, .any, .any, .any, .any, .any, .any, .any, .any, .any, .any, .any, .any, .any, .any, .any, .any, .any, .any]) (fun i => σ ++ [.dead, .dead, .cells [.val (.string (⟨#[102]⟩)), .nilsl, .sl 2 [.agg [str ⟨#[98]⟩, i64 0]], .nilsl, .slo false 6 ((l.take (i + 1)).map EqM.enc) (σ.length + 4)], .cells [.nilsl], .cap (i + 1) 6]) (fun i => m - i) (fun i => i ≤ m) 0 ?_ ?_ ?_
  · exact ⟨Nat.zero_le _, by simp [Wk], by rw [take1 hli0, List.map_cons, List.map_nil, q1_enc]; rfl⟩
  · refine fun y hy => ⟨by simp [belL, AV.bel], bel_app σ fun a ha => ?_⟩
    simp only [List.mem_cons, List.not_mem_nil, or_false] at ha
    simp only [List.length_append, List.length_cons, List.length_nil]
    rcases ha with rfl | rfl | rfl | rfl | rfl
    · rfl
    · rfl
    · simp only [AO.bel, belL, AV.bel, Bool.true_and, Bool.and_true, Bool.and_eq_true, decide_eq_true_eq]
      exact ⟨by omega, belL_map _ _ fun x _ => eq_bel x _⟩
    · rfl
    · rfl
  · intro i hi
    refine AW.seq_k fun K8 hK8 => ?_
    refine AW.regl false [26] (by rfl) fun K9 hK9 => ?_ -- region 6
    simp only [go_sem, Nat.reduceAdd, Nat.reduceEqDiff, Nat.reduceLeDiff, true_and, ProgM.enc, NodeM.enc, EqM.enc, VarM.enc, enc_one, enc_len, enc_get43, enc_get47, eqc_get81, eqc_get128, List.length_map, List.length_cons, List.all_cons, one_row, len_row, ba_beqL, bin_rem (show (7 : Int) ≠ 0 by decide), bin_rem (show (1006 : Int) ≠ 0 by decide), tmod7, tmod1006, hw, hm]
    refine hK9 _ _ ?_; try clear hK9 K9
    conv => enter [5]; simp only [setL_cons, setL_nil, List.set_cons_zero, List.set_cons_succ]
    refine AW.cond rfl (fun hc26 => ?_) (fun hc26 => ?_)
    · skip
      have hi1 : i < m := by simpa using hc26
      have hcv := cat_v i
      have hil : i + 1 < l.length := by omega
      have hap := app_at (en := EqM.enc) hil (by omega) false 6 88 (by decide)
      have htk : (l.take (i + 1)).map EqM.enc ++ [.agg [.sl 1 [str (vS i)], i64 0, i64 0, i64 1, str ⟨#[]⟩, .nilsl]] = (l.take (i + 1 + 1)).map EqM.enc := by
        rw [← take_at EqM.enc hil, hli i hil, q1_enc]
      refine AW.skip ?_
      refine hK8 _ _ ?_; try clear hK8 K8
      refine AW.seq_k fun K10 hK10 => ?_
      refine AW.block ?_
      refine AW.regl false [10] (by rfl) fun K11 hK11 => ?_ -- region 8
      simp only [go_sem, Nat.reduceAdd, Nat.reduceEqDiff, Nat.reduceLeDiff, true_and, ProgM.enc, NodeM.enc, EqM.enc, VarM.enc, enc_one, enc_len, enc_get43, enc_get47, eqc_get81, eqc_get128, List.length_map, List.length_cons, List.all_cons, one_row, len_row, ba_beqL, bin_rem (show (7 : Int) ≠ 0 by decide), bin_rem (show (1006 : Int) ≠ 0 by decide), tmod7, tmod1006, hw, hm, hcv]
      refine sC.of en32 ((number_calls i (by omega)).on _).here (by rfl) ?_
      simp only [go_sem, Nat.reduceAdd, Nat.reduceEqDiff, Nat.reduceLeDiff, true_and, ProgM.enc, NodeM.enc, EqM.enc, VarM.enc, enc_one, enc_len, enc_get43, enc_get47, eqc_get81, eqc_get128, List.length_map, List.length_cons, List.all_cons, one_row, len_row, ba_beqL, bin_rem (show (7 : Int) ≠ 0 by decide), bin_rem (show (1006 : Int) ≠ 0 by decide), tmod7, tmod1006, hw, hm, hcv]
      refine hK11 _ _ ?_; try clear hK11 K11
      conv => enter [5]; simp only [setL_cons, setL_nil, List.set_cons_zero, List.set_cons_succ, upd_none, upd_at]
      refine AW.regl false [34] (by rfl) fun K12 hK12 => ?_ -- region 9
      simp only [go_sem, Nat.reduceAdd, Nat.reduceEqDiff, Nat.reduceLeDiff, true_and, ProgM.enc, NodeM.enc, EqM.enc, VarM.enc, enc_one, enc_len, enc_get43, enc_get47, eqc_get81, eqc_get128, List.length_map, List.length_cons, List.all_cons, one_row, len_row, ba_beqL, bin_rem (show (7 : Int) ≠ 0 by decide), bin_rem (show (1006 : Int) ≠ 0 by decide), tmod7, tmod1006, hw, hm]
      refine hK12 _ _ ?_; try clear hK12 K12
      conv => enter [5]; simp only [setL_cons, setL_nil, List.set_cons_zero, List.set_cons_succ]
      refine AW.block ?_
      refine AW.regl false [35] (by rfl) fun K13 hK13 => ?_ -- region 10
      simp only [go_sem, Nat.reduceAdd, Nat.reduceEqDiff, Nat.reduceLeDiff, true_and, ProgM.enc, NodeM.enc, EqM.enc, VarM.enc, enc_one, enc_len, enc_get43, enc_get47, eqc_get81, eqc_get128, List.length_map, List.length_cons, List.all_cons, one_row, len_row, ba_beqL, bin_rem (show (7 : Int) ≠ 0 by decide), bin_rem (show (1006 : Int) ≠ 0 by decide), tmod7, tmod1006, hw, hm]
      refine hK13 _ _ ?_; try clear hK13 K13
      conv => enter [5]; simp only [setL_cons, setL_nil, List.set_cons_zero, List.set_cons_succ]
      refine AW.cond rfl (fun hc35 => ?_) (fun hc35 => ?_)
      · skip
        exact absurd hc35 (by decide)
      · skip
        refine AW.regl false [48] (by rfl) fun K14 hK14 => ?_ -- region 12
        simp only [go_sem, Nat.reduceAdd, Nat.reduceEqDiff, Nat.reduceLeDiff, true_and, ProgM.enc, NodeM.enc, EqM.enc, VarM.enc, enc_one, enc_len, enc_get43, enc_get47, eqc_get81, eqc_get128, List.length_map, List.length_cons, List.all_cons, one_row, len_row, ba_beqL, bin_rem (show (7 : Int) ≠ 0 by decide), bin_rem (show (1006 : Int) ≠ 0 by decide), tmod7, tmod1006, hw, hm]
        refine hK14 _ _ ?_; try clear hK14 K14
        conv => enter [5]; simp only [setL_cons, setL_nil, List.set_cons_zero, List.set_cons_succ]
        refine AW.cond rfl (fun hc48 => ?_) (fun hc48 => ?_)
        · skip
          exact absurd hc48 (by decide)
        · skip
          refine AW.regl false [56] (by rfl) fun K15 hK15 => ?_ -- region 14
          simp only [go_sem, Nat.reduceAdd, Nat.reduceEqDiff, Nat.reduceLeDiff, true_and, ProgM.enc, NodeM.enc, EqM.enc, VarM.enc, enc_one, enc_len, enc_get43, enc_get47, eqc_get81, eqc_get128, List.length_map, List.length_cons, List.all_cons, one_row, len_row, ba_beqL, bin_rem (show (7 : Int) ≠ 0 by decide), bin_rem (show (1006 : Int) ≠ 0 by decide), tmod7, tmod1006, hw, hm]
          refine hK15 _ _ ?_; try clear hK15 K15
          conv => enter [5]; simp only [setL_cons, setL_nil, List.set_cons_zero, List.set_cons_succ]
          refine AW.cond rfl (fun hc56 => ?_) (fun hc56 => ?_)
          · skip
            exact absurd hc56 (by decide)
          · skip
            refine AW.regl false [64] (by rfl) fun K16 hK16 => ?_ -- region 16
            simp only [go_sem, Nat.reduceAdd, Nat.reduceEqDiff, Nat.reduceLeDiff, true_and, ProgM.enc, NodeM.enc, EqM.enc, VarM.enc, enc_one, enc_len, enc_get43, enc_get47, eqc_get81, eqc_get128, List.length_map, List.length_cons, List.all_cons, one_row, len_row, ba_beqL, bin_rem (show (7 : Int) ≠ 0 by decide), bin_rem (show (1006 : Int) ≠ 0 by decide), tmod7, tmod1006, hw, hm]
            refine hK16 _ _ ?_; try clear hK16 K16
            conv => enter [5]; simp only [setL_cons, setL_nil, List.set_cons_zero, List.set_cons_succ]
            refine AW.cond rfl (fun hc64 => ?_) (fun hc64 => ?_)
            · skip
              exact absurd hc64 (by decide)
            · skip
              refine AW.regl false [72] (by rfl) fun K17 hK17 => ?_ -- region 18
              simp only [go_sem, Nat.reduceAdd, Nat.reduceEqDiff, Nat.reduceLeDiff, true_and, ProgM.enc, NodeM.enc, EqM.enc, VarM.enc, enc_one, enc_len, enc_get43, enc_get47, eqc_get81, eqc_get128, List.length_map, List.length_cons, List.all_cons, one_row, len_row, ba_beqL, bin_rem (show (7 : Int) ≠ 0 by decide), bin_rem (show (1006 : Int) ≠ 0 by decide), tmod7, tmod1006, hw, hm]
              refine hK17 _ _ ?_; try clear hK17 K17
              conv => enter [5]; simp only [setL_cons, setL_nil, List.set_cons_zero, List.set_cons_succ]
              refine AW.cond rfl (fun hc72 => ?_) (fun hc72 => ?_)
              · skip
                refine AW.lastl false [] (by rfl) fun K hK => ?_ -- region 19
                simp only [go_sem, Nat.reduceAdd, Nat.reduceEqDiff, Nat.reduceLeDiff, true_and, ProgM.enc, NodeM.enc, EqM.enc, VarM.enc, enc_one, enc_len, enc_get43, enc_get47, eqc_get81, eqc_get128, List.length_map, List.length_cons, List.all_cons, one_row, len_row, ba_beqL, bin_rem (show (7 : Int) ≠ 0 by decide), bin_rem (show (1006 : Int) ≠ 0 by decide), tmod7, tmod1006, hw, hm, hap, row1_79 _ (str (vS i)) rfl rfl, row1_82 _ (.agg [.sl 1 [str (vS i)], i64 0, i64 0, i64 1, str ⟨#[]⟩, .nilsl]) rfl rfl, htk]
                refine hK _ _ fun env' hw => ?_
                simp only [setL_cons, setL_nil, List.set_cons_zero, List.set_cons_succ] at hw
                refine hK10 _ _ (AW.weaken hw ?_); clear hw; try clear hK10 K10
                refine AW.lastl false [9] (by rfl) fun K hK => ?_ -- region 7
                simp only [go_sem, Nat.reduceAdd, Nat.reduceEqDiff, Nat.reduceLeDiff, true_and, ProgM.enc, NodeM.enc, EqM.enc, VarM.enc, enc_one, enc_len, enc_get43, enc_get47, eqc_get81, eqc_get128, List.length_map, List.length_cons, List.all_cons, one_row, len_row, ba_beqL, bin_rem (show (7 : Int) ≠ 0 by decide), bin_rem (show (1006 : Int) ≠ 0 by decide), tmod7, tmod1006, hw, hm]
                refine hK _ _ fun env' hw => ?_
                simp only [setL_cons, setL_nil, List.set_cons_zero, List.set_cons_succ] at hw
                refine ⟨i + 1, by omega, by omega, ?_, by first | rfl | (simp [List.take_append, List.take_of_length_le]; done) | (simp [List.take_append, List.take_of_length_le]; repeat' constructor)⟩
                refine hw.trans ?_
                simp [Wk, wrap_succ hi1 hl0]
                try omega
              · skip
                exact absurd hc72 (by decide)
    · skip
      have hi1 : i = m := by
        have : ¬ i < m := by simpa using hc26
        omega
      refine AW.exit ?_
      refine hK6 _ _ ?_; try clear hK6 K6
      refine AW.seq_k fun K18 hK18 => ?_
      refine AW.still (σ.length + 2) ((app_get σ _ 2).trans rfl) ?_
      simp only [app_set, List.set_cons_zero, List.set_cons_succ, List.map_cons, List.map_nil, still_slof, still_val, still_row, still_sl, still_nil]
      rw [show l.take (i + 1) = l by rw [hi1, ← hll, List.take_length]]
      refine AW.regl false [133] (by rfl) fun K19 hK19 => ?_ -- region 27
      simp only [go_sem, Nat.reduceAdd, Nat.reduceEqDiff, Nat.reduceLeDiff, true_and, ProgM.enc, NodeM.enc, EqM.enc, VarM.enc, enc_one, enc_len, enc_get43, enc_get47, eqc_get81, eqc_get128, List.length_map, List.length_cons, List.all_cons, one_row, len_row, ba_beqL, bin_rem (show (7 : Int) ≠ 0 by decide), bin_rem (show (1006 : Int) ≠ 0 by decide), tmod7, tmod1006, hw, hm]
      refine hK19 _ _ ?_; try clear hK19 K19
      conv => enter [5]; simp only [setL_cons, setL_nil, List.set_cons_zero, List.set_cons_succ]
      refine AW.cond rfl (fun hc133 => ?_) (fun hc133 => ?_)
      · skip
        exact absurd hc133 (by decide)
      · skip
        refine AW.skip ?_
        refine hK18 _ _ ?_; try clear hK18 K18
        refine AW.seq_k fun K20 hK20 => ?_
        refine AW.regl false [151] (by rfl) fun K21 hK21 => ?_ -- region 29
        simp only [go_sem, Nat.reduceAdd, Nat.reduceEqDiff, Nat.reduceLeDiff, true_and, ProgM.enc, NodeM.enc, EqM.enc, VarM.enc, enc_one, enc_len, enc_get43, enc_get47, eqc_get81, eqc_get128, List.length_map, List.length_cons, List.all_cons, one_row, len_row, ba_beqL, bin_rem (show (7 : Int) ≠ 0 by decide), bin_rem (show (1006 : Int) ≠ 0 by decide), tmod7, tmod1006, hw, hm]
        refine hK21 _ _ ?_; try clear hK21 K21
        conv => enter [5]; simp only [setL_cons, setL_nil, List.set_cons_zero, List.set_cons_succ]
        refine AW.cond rfl (fun hc151 => ?_) (fun hc151 => ?_)
        · skip
          refine AW.lastl false [] (by rfl) fun K hK => ?_ -- region 30
          simp only [go_sem, Nat.reduceAdd, Nat.reduceEqDiff, Nat.reduceLeDiff, true_and, ProgM.enc, NodeM.enc, EqM.enc, VarM.enc, enc_one, enc_len, enc_get43, enc_get47, eqc_get81, eqc_get128, List.length_map, List.length_cons, List.all_cons, one_row, len_row, ba_beqL, bin_rem (show (7 : Int) ≠ 0 by decide), bin_rem (show (1006 : Int) ≠ 0 by decide), tmod7, tmod1006, hw, hm, row1_85 _ (.agg [str ⟨#[102]⟩, .nilsl, .sl 2 [.agg [str ⟨#[98]⟩, i64 0]], .nilsl, rowAV 6 false (l.map EqM.enc)]) rfl (by simp only [AV.cells, List.all_cons, List.all_nil, one_row, one_str, one_sl, one_nilsl, Bool.and_true])]
          refine hK _ _ fun env' hw => ?_
          simp only [setL_cons, setL_nil, List.set_cons_zero, List.set_cons_succ] at hw
          refine hK20 _ _ (AW.weaken hw ?_); clear hw; try clear hK20 K20
          rw [hpc]
          refine AW.regl false [11] (by rfl) fun K22 hK22 => ?_ -- region 31
          simp only [go_sem, Nat.reduceAdd, Nat.reduceEqDiff, Nat.reduceLeDiff, true_and, ProgM.enc, NodeM.enc, EqM.enc, VarM.enc, enc_one, enc_len, enc_get43, enc_get47, eqc_get81, eqc_get128, List.length_map, List.length_cons, List.all_cons, one_row, len_row, ba_beqL, bin_rem (show (7 : Int) ≠ 0 by decide), bin_rem (show (1006 : Int) ≠ 0 by decide), tmod7, tmod1006, hw, hm]
          refine sC.of en33 ((oprog_calls p hpk).on _).here (by rfl) ?_
          simp only [go_sem, Nat.reduceAdd, Nat.reduceEqDiff, Nat.reduceLeDiff, true_and, ProgM.enc, NodeM.enc, EqM.enc, VarM.enc, enc_one, enc_len, enc_get43, enc_get47, eqc_get81, eqc_get128, List.length_map, List.length_cons, List.all_cons, one_row, len_row, ba_beqL, bin_rem (show (7 : Int) ≠ 0 by decide), bin_rem (show (1006 : Int) ≠ 0 by decide), tmod7, tmod1006, hw, hm]
          refine hK22 _ _ ?_; try clear hK22 K22
          conv => enter [5]; simp only [setL_cons, setL_nil, List.set_cons_zero, List.set_cons_succ, upd_none, upd_at]
          refine AW.regtdf mixed false 4 (.val (.bool (true))) (by kernel_rfl) (by rfl) ?_ ?_ -- region 32
          · skip
            cases h166 : (((p.nodes.length : Int) == 0))
            · skip
              simp only [go_sem, Nat.reduceAdd, Nat.reduceEqDiff, Nat.reduceLeDiff, true_and, ProgM.enc, NodeM.enc, EqM.enc, VarM.enc, enc_one, enc_len, enc_get43, enc_get47, eqc_get81, eqc_get128, List.length_map, List.length_cons, List.all_cons, one_row, len_row, ba_beqL, bin_rem (show (7 : Int) ≠ 0 by decide), bin_rem (show (1006 : Int) ≠ 0 by decide), tmod7, tmod1006, hw, hm, hya, hza, bin_beql tyBool4, beq_self_eq_true, h166]
              refine qC.of en34 (hR34.on _).here (by rfl) ?_
              simp only [go_sem, Nat.reduceAdd, Nat.reduceEqDiff, Nat.reduceLeDiff, true_and, ProgM.enc, NodeM.enc, EqM.enc, VarM.enc, enc_one, enc_len, enc_get43, enc_get47, eqc_get81, eqc_get128, List.length_map, List.length_cons, List.all_cons, one_row, len_row, ba_beqL, bin_rem (show (7 : Int) ≠ 0 by decide), bin_rem (show (1006 : Int) ≠ 0 by decide), tmod7, tmod1006, hw, hm, hya, hza, bin_beql tyBool4, beq_self_eq_true, h166]
              refine qC.of en35 ((rpright_calls p hpk).on _).here (by rfl) ?_
              simp only [go_sem, Nat.reduceAdd, Nat.reduceEqDiff, Nat.reduceLeDiff, true_and, ProgM.enc, NodeM.enc, EqM.enc, VarM.enc, enc_one, enc_len, enc_get43, enc_get47, eqc_get81, eqc_get128, List.length_map, List.length_cons, List.all_cons, one_row, len_row, ba_beqL, bin_rem (show (7 : Int) ≠ 0 by decide), bin_rem (show (1006 : Int) ≠ 0 by decide), tmod7, tmod1006, hw, hm, hya, hza, bin_beql tyBool4, beq_self_eq_true, h166]
              refine qC.of en36 (hR36.on _).here (by rfl) ?_
              simp only [go_sem, Nat.reduceAdd, Nat.reduceEqDiff, Nat.reduceLeDiff, true_and, ProgM.enc, NodeM.enc, EqM.enc, VarM.enc, enc_one, enc_len, enc_get43, enc_get47, eqc_get81, eqc_get128, List.length_map, List.length_cons, List.all_cons, one_row, len_row, ba_beqL, bin_rem (show (7 : Int) ≠ 0 by decide), bin_rem (show (1006 : Int) ≠ 0 by decide), tmod7, tmod1006, hw, hm, hya, hza, bin_beql tyBool4, beq_self_eq_true, h166]
              refine qC.of en37 ((rnright_calls nd hnd).on _).here (by rfl) ?_
              simp only [go_sem, Nat.reduceAdd, Nat.reduceEqDiff, Nat.reduceLeDiff, true_and, ProgM.enc, NodeM.enc, EqM.enc, VarM.enc, enc_one, enc_len, enc_get43, enc_get47, eqc_get81, eqc_get128, List.length_map, List.length_cons, List.all_cons, one_row, len_row, ba_beqL, bin_rem (show (7 : Int) ≠ 0 by decide), bin_rem (show (1006 : Int) ≠ 0 by decide), tmod7, tmod1006, hw, hm, hya, hza, bin_beql tyBool4, beq_self_eq_true, h166]
              refine qC.of en23 ((aawake_calls hΓ).on _).here (by rfl) ?_
              simp only [go_sem, Nat.reduceAdd, Nat.reduceEqDiff, Nat.reduceLeDiff, true_and, ProgM.enc, NodeM.enc, EqM.enc, VarM.enc, enc_one, enc_len, enc_get43, enc_get47, eqc_get81, eqc_get128, List.length_map, List.length_cons, List.all_cons, one_row, len_row, ba_beqL, bin_rem (show (7 : Int) ≠ 0 by decide), bin_rem (show (1006 : Int) ≠ 0 by decide), tmod7, tmod1006, hw, hm, hya, hza, bin_beql tyBool4, beq_self_eq_true, h166]
              try simp [upd_at, h166, ProgM.enc, NodeM.enc, EqM.enc, VarM.enc, enc_one, enc_len, enc_get43, enc_get47, eqc_get81, eqc_get128, List.length_map, List.length_cons, List.all_cons, one_row, len_row, ba_beqL, bin_rem (show (7 : Int) ≠ 0 by decide), bin_rem (show (1006 : Int) ≠ 0 by decide), tmod7, tmod1006, hw, hm, hya, hza, bin_beql tyBool4, beq_self_eq_true]
            · skip
              simp only [go_sem, Nat.reduceAdd, Nat.reduceEqDiff, Nat.reduceLeDiff, true_and, ProgM.enc, NodeM.enc, EqM.enc, VarM.enc, enc_one, enc_len, enc_get43, enc_get47, eqc_get81, eqc_get128, List.length_map, List.length_cons, List.all_cons, one_row, len_row, ba_beqL, bin_rem (show (7 : Int) ≠ 0 by decide), bin_rem (show (1006 : Int) ≠ 0 by decide), tmod7, tmod1006, hw, hm, hya, hza, bin_beql tyBool4, beq_self_eq_true, h166]
              refine qC.of en34 (hR34.on _).here (by rfl) ?_
              simp only [go_sem, Nat.reduceAdd, Nat.reduceEqDiff, Nat.reduceLeDiff, true_and, ProgM.enc, NodeM.enc, EqM.enc, VarM.enc, enc_one, enc_len, enc_get43, enc_get47, eqc_get81, eqc_get128, List.length_map, List.length_cons, List.all_cons, one_row, len_row, ba_beqL, bin_rem (show (7 : Int) ≠ 0 by decide), bin_rem (show (1006 : Int) ≠ 0 by decide), tmod7, tmod1006, hw, hm, hya, hza, bin_beql tyBool4, beq_self_eq_true, h166]
              refine qC.of en35 ((rpright_calls p hpk).on _).here (by rfl) ?_
              simp only [go_sem, Nat.reduceAdd, Nat.reduceEqDiff, Nat.reduceLeDiff, true_and, ProgM.enc, NodeM.enc, EqM.enc, VarM.enc, enc_one, enc_len, enc_get43, enc_get47, eqc_get81, eqc_get128, List.length_map, List.length_cons, List.all_cons, one_row, len_row, ba_beqL, bin_rem (show (7 : Int) ≠ 0 by decide), bin_rem (show (1006 : Int) ≠ 0 by decide), tmod7, tmod1006, hw, hm, hya, hza, bin_beql tyBool4, beq_self_eq_true, h166]
              refine qC.of en23 ((aawake_calls hΓ).on _).here (by rfl) ?_
              simp only [go_sem, Nat.reduceAdd, Nat.reduceEqDiff, Nat.reduceLeDiff, true_and, ProgM.enc, NodeM.enc, EqM.enc, VarM.enc, enc_one, enc_len, enc_get43, enc_get47, eqc_get81, eqc_get128, List.length_map, List.length_cons, List.all_cons, one_row, len_row, ba_beqL, bin_rem (show (7 : Int) ≠ 0 by decide), bin_rem (show (1006 : Int) ≠ 0 by decide), tmod7, tmod1006, hw, hm, hya, hza, bin_beql tyBool4, beq_self_eq_true, h166]
              try simp [upd_at, h166, ProgM.enc, NodeM.enc, EqM.enc, VarM.enc, enc_one, enc_len, enc_get43, enc_get47, eqc_get81, eqc_get128, List.length_map, List.length_cons, List.all_cons, one_row, len_row, ba_beqL, bin_rem (show (7 : Int) ≠ 0 by decide), bin_rem (show (1006 : Int) ≠ 0 by decide), tmod7, tmod1006, hw, hm, hya, hza, bin_beql tyBool4, beq_self_eq_true]
          conv => enter [5]; simp only [List.set_cons_zero, List.set_cons_succ]
          refine AW.ret ⟨.inr rfl, _, rfl, by simp, ?_⟩ -- return 1
          exact .keep rfl
        · skip
          exact absurd hc151 (by decide)

set_option maxRecDepth 100000 in
set_option maxHeartbeats 1000000 in
theorem lists5 (hΓ : Words Γ) (n x : Nat) (hn : n < 65536) (hx : x < 256) (hw : x % 7 = 5) : APure prog Γ 6 [.val (.int .u16 (n : Nat)), .val (.int .u8 (x : Nat))] (bool true) := by
  refine APure.of func6 rfl fun σ => ?_
  simp only [ntmps6, List.length_cons, List.length_nil, Nat.reduceAdd, Nat.reduceSub, List.replicate_succ, List.replicate_zero, List.cons_append, List.nil_append]
  have hwn : IntKind.wrap .i64 ((n : Nat) : Int) = (n : Nat) := wrap_i64 (by omega) (by omega)
  obtain ⟨m, hm⟩ : ∃ m, n % 1006 = m := ⟨_, rfl⟩
  have hm5 : m ≤ 1005 := by omega
  have hl0 : m ≤ maxLen := by rw [maxLen_eq]; omega
  obtain ⟨l, hll, hli0, hli, hlm⟩ := tab1 sB vS m
  obtain ⟨nd, hnde⟩ : ∃ z : NodeM, z = ⟨sF, true, [], false, [bN], true, [], false, [⟨false, l, e1⟩]⟩ := ⟨_, rfl⟩
  obtain ⟨p, hpe⟩ : ∃ z : ProgM, z = ⟨false, [nd]⟩ := ⟨_, rfl⟩
  have hnd : nd.ok := by
    rw [hnde]
    exact ⟨by show (1 : Nat) ≤ 1100000; omega, nil_ok, bs_ok, nil_ok, by show (1 : Nat) ≤ 1100000; omega, fun q hq => by
      rw [List.mem_singleton] at hq
      rw [hq]
      refine ⟨⟨by show l.length ≤ _; omega, fun s hs => ?_⟩, e1_ok⟩
      rcases hlm s hs with rfl | ⟨i, rfl⟩
      · show (1 : Nat) ≤ 1100000
        omega
      · have := vS_size i
        omega⟩
  have hpk : p.ok := by rw [hpe]; exact p1_ok hnd
  have hpn : p.nodes = [nd] := by rw [hpe]
  have hpl : p.nodes.length = 1 := by rw [hpn]; rfl
  have hy0 : (p.own.nodes.map NodeM.enc)[0]? = some nd.own.enc := by rw [ProgM.own, hpn]; rfl
  have hz0 : (p.nodes.map NodeM.enc)[0]? = some nd.enc := by rw [hpn]; rfl
  have hya : aAt 5 (rowAV 5 p.own.nl (p.own.nodes.map NodeM.enc)) (.val (.int .i64 0)) = some (.er nd.own.enc.cells) := at_row (i := 0) hy0
  have hza : aAt 5 (rowAV 5 p.nl (p.nodes.map NodeM.enc)) (.val (.int .i64 0)) = some (.er nd.enc.cells) := at_row (i := 0) hz0
  have hR34 : APure prog Γ 34 [p.own.enc] (bool p.right) := by rw [← progown_right]; exact pright_calls hΓ p.own (progown_ok hpk)
  have hR36 : APure prog Γ 36 [nd.own.enc] (bool nd.right) := by rw [← nodeown_right]; exact nright_calls hΓ nd.own (nodeown_ok hnd)
  have hpc : ([.sl 5 [.agg [str ⟨#[102]⟩, .nilsl, .sl 2 [.agg [str ⟨#[98]⟩, i64 0]], .nilsl, .sl 6 [.agg [rowAV 1 false (l.map str), i64 0, i64 0, i64 1, str ⟨#[]⟩, .nilsl]]]]] : List AV) = p.enc.cells := by rw [hpe, hnde]; rfl
  refine AW.regl false [4] (by rfl) fun K1 hK1 => ?_ -- region 0
  simp only [go_sem, Nat.reduceAdd, Nat.reduceEqDiff, Nat.reduceLeDiff, true_and, ProgM.enc, NodeM.enc, EqM.enc, VarM.enc, enc_one, enc_len, enc_get43, enc_get47, eqc_get81, eqc_get128, List.length_map, List.length_cons, List.all_cons, one_row, len_row, ba_beqL, bin_rem (show (7 : Int) ≠ 0 by decide), bin_rem (show (1006 : Int) ≠ 0 by decide), tmod7, tmod1006, hw, hm]
  refine hK1 _ _ ?_; try clear hK1 K1
  conv => enter [5]; simp only [setL_cons, setL_nil, List.set_cons_zero, List.set_cons_succ]
  refine AW.regl false [5] (by rfl) fun K2 hK2 => ?_ -- region 1
  simp only [go_sem, Nat.reduceAdd, Nat.reduceEqDiff, Nat.reduceLeDiff, true_and, ProgM.enc, NodeM.enc, EqM.enc, VarM.enc, enc_one, enc_len, enc_get43, enc_get47, eqc_get81, eqc_get128, List.length_map, List.length_cons, List.all_cons, one_row, len_row, ba_beqL, bin_rem (show (7 : Int) ≠ 0 by decide), bin_rem (show (1006 : Int) ≠ 0 by decide), tmod7, tmod1006, hw, hm, hwn]
  refine hK2 _ _ ?_; try clear hK2 K2
  conv => enter [5]; simp only [setL_cons, setL_nil, List.set_cons_zero, List.set_cons_succ]
  refine AW.regl false [6] (by rfl) fun K3 hK3 => ?_ -- region 2
  simp only [go_sem, Nat.reduceAdd, Nat.reduceEqDiff, Nat.reduceLeDiff, true_and, ProgM.enc, NodeM.enc, EqM.enc, VarM.enc, enc_one, enc_len, enc_get43, enc_get47, eqc_get81, eqc_get128, List.length_map, List.length_cons, List.all_cons, one_row, len_row, ba_beqL, bin_rem (show (7 : Int) ≠ 0 by decide), bin_rem (show (1006 : Int) ≠ 0 by decide), tmod7, tmod1006, hw, hm]
  refine hK3 _ _ ?_; try clear hK3 K3
  conv => enter [5]; simp only [setL_cons, setL_nil, List.set_cons_zero, List.set_cons_succ]
  refine AW.regl true [7] (by rfl) fun K4 hK4 => ?_ -- region 3
  simp only [go_sem, Nat.reduceAdd, Nat.reduceEqDiff, Nat.reduceLeDiff, true_and, ProgM.enc, NodeM.enc, EqM.enc, VarM.enc, enc_one, enc_len, enc_get43, enc_get47, eqc_get81, eqc_get128, List.length_map, List.length_cons, List.all_cons, one_row, len_row, ba_beqL, bin_rem (show (7 : Int) ≠ 0 by decide), bin_rem (show (1006 : Int) ≠ 0 by decide), tmod7, tmod1006, hw, hm, rowm79 _ (str ⟨#[98]⟩) rfl rfl, rowm82 _ (.agg [.osl σ.length 0 1 1, i64 0, i64 0, i64 1, str ⟨#[]⟩, .nilsl]) rfl rfl, hold_len, List.append_assoc, List.cons_append, List.nil_append]
  refine hK4 _ _ ?_; try clear hK4 K4
  conv => enter [5]; simp only [setL_cons, setL_nil, List.set_cons_zero, List.set_cons_succ, upd_none, upd_at]
  refine AW.regl false [8] (by rfl) fun K5 hK5 => ?_ -- region 4
  simp only [go_sem, Nat.reduceAdd, Nat.reduceEqDiff, Nat.reduceLeDiff, true_and, ProgM.enc, NodeM.enc, EqM.enc, VarM.enc, enc_one, enc_len, enc_get43, enc_get47, eqc_get81, eqc_get128, List.length_map, List.length_cons, List.all_cons, one_row, len_row, ba_beqL, bin_rem (show (7 : Int) ≠ 0 by decide), bin_rem (show (1006 : Int) ≠ 0 by decide), tmod7, tmod1006, hw, hm]
  refine hK5 _ _ ?_; try clear hK5 K5
  conv => enter [5]; simp only [setL_cons, setL_nil, List.set_cons_zero, List.set_cons_succ, upd_none, upd_at]
  refine AW.seq_k fun K6 hK6 => ?_
  refine AW.regl false [9] (by rfl) fun K7 hK7 => ?_ -- region 5
  simp only [go_sem, Nat.reduceAdd, Nat.reduceEqDiff, Nat.reduceLeDiff, true_and, ProgM.enc, NodeM.enc, EqM.enc, VarM.enc, enc_one, enc_len, enc_get43, enc_get47, eqc_get81, eqc_get128, List.length_map, List.length_cons, List.all_cons, one_row, len_row, ba_beqL, bin_rem (show (7 : Int) ≠ 0 by decide), bin_rem (show (1006 : Int) ≠ 0 by decide), tmod7, tmod1006, hw, hm]
  refine hK7 _ _ ?_; try clear hK7 K7
  conv => enter [5]; simp only [setL_cons, setL_nil, List.set_cons_zero, List.set_cons_succ]
  refine AW.hold σ.length (σ.length + 1) 0 [str ⟨#[98]⟩] ((app_get σ _ 1).trans rfl) ((app_get0 σ _).trans rfl) rfl rfl rfl (by decide) (fun e he => by rw [List.mem_singleton] at he; rw [he]; rfl) (by decide) (by omega) ?_
  simp only [hold_len, set0, app_set, app_set0, List.cons_append, List.nil_append, List.append_assoc, List.set_cons_zero, List.set_cons_succ, List.length_cons, List.length_nil, Nat.zero_add, Nat.reduceAdd]
  refine AW.block ?_
  refine AW.loop_dr (α := Nat) (fun i => [.any, (.val (.int .u8 ((x : Nat) : Int))), .any, .any, .any, (.val (.int .i64 ((m : Nat) : Int))), (.sl 2 [.agg [str ⟨#[98]⟩, i64 0]]), (.ref (σ.length + 2) 0), (.ref (σ.length + 3) 0), (.val (.int .i64 ((i : Nat) : Int))), .any, .any, .any, .any, .any, .any, .any, .any, .any, .any, .any, .any, .any, .any, .any, .any, .any, .any, .any, .any, .any, .any, .any, .any, .any, .any, .any, .any, .any, .any, .any, .any, .any, .any, .any, .any, .any, .any, .any, .any, .any, .any, .any, .any, .any, .any, .any, .any, .any, .any, .any, .any, .any, .any, .any, .any, .any, .any, .any, .any, .any, .any, .any, .any, .any, .any, .any, .any, .any, .any, .any, .any, .any, .any, .any, .any, .any, .any, .any, .any, .any, .any, .any, .any, .any, .any, .any, .any, .any, .any, .any, .any, .any, .any, .any, .any, .any, .any, .any, .any, .any, .any, .any, .any, .any, .any, .any, .any, .any, .any, .any, .any, .any, .any, .any, .any, .any, .any, .any, .any, .any, .any, .any, .any, .any, .any, .any, .any, .any, .any, .any, .any, .any, .any, .any, .any, .any, .any, .any, .any, .any, .any, .any, .any, .any, .any, .any, .any, .any, .any, .any, .any, .any, .any, .any, .any, .any, .any, .any, .any, .any, .any, .any, .any, .any, .any, .any, .any, .any, .any, .any, .any, .any, .any]) (fun i => σ ++ [.dead, .cells [.slo false 1 ((l.take (i + 1)).map str) (σ.length + 4), i64 0, i64 0, i64 1, str ⟨#[]⟩, .nilsl], .cells [.val (.string (⟨#[102]⟩)), .nilsl, .sl 2 [.agg [str ⟨#[98]⟩, i64 0]], .nilsl, .osl (σ.length + 1) 0 1 6], .cells [.nilsl], .cap (i + 1) 1]) (fun i => m - i) (fun i => i ≤ m) 0 ?_ ?_ ?_
  · exact ⟨Nat.zero_le _, by simp [Wk], by rw [take1 hli0]; rfl⟩
  · refine fun y hy => ⟨by simp [belL, AV.bel], bel_app σ fun a ha => ?_⟩
    simp only [List.mem_cons, List.not_mem_nil, or_false] at ha
    simp only [List.length_append, List.length_cons, List.length_nil]
    rcases ha with rfl | rfl | rfl | rfl | rfl
    · rfl
    · simp only [AO.bel, belL, AV.bel, Bool.true_and, Bool.and_true, Bool.and_eq_true, decide_eq_true_eq]
      exact ⟨by omega, belL_map _ _ fun x _ => str_bel x _⟩
    · simp [AO.bel, belL, AV.bel]
    · rfl
    · rfl
  · intro i hi
    refine AW.seq_k fun K8 hK8 => ?_
    refine AW.regl false [26] (by rfl) fun K9 hK9 => ?_ -- region 6
    simp only [go_sem, Nat.reduceAdd, Nat.reduceEqDiff, Nat.reduceLeDiff, true_and, ProgM.enc, NodeM.enc, EqM.enc, VarM.enc, enc_one, enc_len, enc_get43, enc_get47, eqc_get81, eqc_get128, List.length_map, List.length_cons, List.all_cons, one_row, len_row, ba_beqL, bin_rem (show (7 : Int) ≠ 0 by decide), bin_rem (show (1006 : Int) ≠ 0 by decide), tmod7, tmod1006, hw, hm]
    refine hK9 _ _ ?_; try clear hK9 K9
    conv => enter [5]; simp only [setL_cons, setL_nil, List.set_cons_zero, List.set_cons_succ]
    refine AW.cond rfl (fun hc26 => ?_) (fun hc26 => ?_)
    · skip
      have hi1 : i < m := by simpa using hc26
      have hcv := cat_v i
      have hil : i + 1 < l.length := by omega
      have hap := app_at (en := str) hil (by omega) false 1 16 (by decide)
      have hat := at_osl0 (sz := 6) (o := σ.length + 1) (off := 0) (n := 0) (k := .i64)
      have htk : (l.take (i + 1)).map str ++ [str (vS i)] = (l.take (i + 1 + 1)).map str := by
        rw [← take_at str hil, hli i hil]
      refine AW.skip ?_
      refine hK8 _ _ ?_; try clear hK8 K8
      refine AW.seq_k fun K10 hK10 => ?_
      refine AW.block ?_
      refine AW.regl false [10] (by rfl) fun K11 hK11 => ?_ -- region 8
      simp only [go_sem, Nat.reduceAdd, Nat.reduceEqDiff, Nat.reduceLeDiff, true_and, ProgM.enc, NodeM.enc, EqM.enc, VarM.enc, enc_one, enc_len, enc_get43, enc_get47, eqc_get81, eqc_get128, List.length_map, List.length_cons, List.all_cons, one_row, len_row, ba_beqL, bin_rem (show (7 : Int) ≠ 0 by decide), bin_rem (show (1006 : Int) ≠ 0 by decide), tmod7, tmod1006, hw, hm, hcv]
      refine sC.of en32 ((number_calls i (by omega)).on _).here (by rfl) ?_
      simp only [go_sem, Nat.reduceAdd, Nat.reduceEqDiff, Nat.reduceLeDiff, true_and, ProgM.enc, NodeM.enc, EqM.enc, VarM.enc, enc_one, enc_len, enc_get43, enc_get47, eqc_get81, eqc_get128, List.length_map, List.length_cons, List.all_cons, one_row, len_row, ba_beqL, bin_rem (show (7 : Int) ≠ 0 by decide), bin_rem (show (1006 : Int) ≠ 0 by decide), tmod7, tmod1006, hw, hm, hcv]
      refine hK11 _ _ ?_; try clear hK11 K11
      conv => enter [5]; simp only [setL_cons, setL_nil, List.set_cons_zero, List.set_cons_succ, upd_none, upd_at]
      refine AW.regl false [34] (by rfl) fun K12 hK12 => ?_ -- region 9
      simp only [go_sem, Nat.reduceAdd, Nat.reduceEqDiff, Nat.reduceLeDiff, true_and, ProgM.enc, NodeM.enc, EqM.enc, VarM.enc, enc_one, enc_len, enc_get43, enc_get47, eqc_get81, eqc_get128, List.length_map, List.length_cons, List.all_cons, one_row, len_row, ba_beqL, bin_rem (show (7 : Int) ≠ 0 by decide), bin_rem (show (1006 : Int) ≠ 0 by decide), tmod7, tmod1006, hw, hm]
      refine hK12 _ _ ?_; try clear hK12 K12
      conv => enter [5]; simp only [setL_cons, setL_nil, List.set_cons_zero, List.set_cons_succ]
      refine AW.block ?_
      refine AW.regl false [35] (by rfl) fun K13 hK13 => ?_ -- region 10
      simp only [go_sem, Nat.reduceAdd, Nat.reduceEqDiff, Nat.reduceLeDiff, true_and, ProgM.enc, NodeM.enc, EqM.enc, VarM.enc, enc_one, enc_len, enc_get43, enc_get47, eqc_get81, eqc_get128, List.length_map, List.length_cons, List.all_cons, one_row, len_row, ba_beqL, bin_rem (show (7 : Int) ≠ 0 by decide), bin_rem (show (1006 : Int) ≠ 0 by decide), tmod7, tmod1006, hw, hm]
      refine hK13 _ _ ?_; try clear hK13 K13
      conv => enter [5]; simp only [setL_cons, setL_nil, List.set_cons_zero, List.set_cons_succ]
      refine AW.cond rfl (fun hc35 => ?_) (fun hc35 => ?_)
      · skip
        exact absurd hc35 (by decide)
      · skip
        refine AW.regl false [48] (by rfl) fun K14 hK14 => ?_ -- region 12
        simp only [go_sem, Nat.reduceAdd, Nat.reduceEqDiff, Nat.reduceLeDiff, true_and, ProgM.enc, NodeM.enc, EqM.enc, VarM.enc, enc_one, enc_len, enc_get43, enc_get47, eqc_get81, eqc_get128, List.length_map, List.length_cons, List.all_cons, one_row, len_row, ba_beqL, bin_rem (show (7 : Int) ≠ 0 by decide), bin_rem (show (1006 : Int) ≠ 0 by decide), tmod7, tmod1006, hw, hm]
        refine hK14 _ _ ?_; try clear hK14 K14
        conv => enter [5]; simp only [setL_cons, setL_nil, List.set_cons_zero, List.set_cons_succ]
        refine AW.cond rfl (fun hc48 => ?_) (fun hc48 => ?_)
        · skip
          exact absurd hc48 (by decide)
        · skip
          refine AW.regl false [56] (by rfl) fun K15 hK15 => ?_ -- region 14
          simp only [go_sem, Nat.reduceAdd, Nat.reduceEqDiff, Nat.reduceLeDiff, true_and, ProgM.enc, NodeM.enc, EqM.enc, VarM.enc, enc_one, enc_len, enc_get43, enc_get47, eqc_get81, eqc_get128, List.length_map, List.length_cons, List.all_cons, one_row, len_row, ba_beqL, bin_rem (show (7 : Int) ≠ 0 by decide), bin_rem (show (1006 : Int) ≠ 0 by decide), tmod7, tmod1006, hw, hm]
          refine hK15 _ _ ?_; try clear hK15 K15
          conv => enter [5]; simp only [setL_cons, setL_nil, List.set_cons_zero, List.set_cons_succ]
          refine AW.cond rfl (fun hc56 => ?_) (fun hc56 => ?_)
          · skip
            exact absurd hc56 (by decide)
          · skip
            refine AW.regl false [64] (by rfl) fun K16 hK16 => ?_ -- region 16
            simp only [go_sem, Nat.reduceAdd, Nat.reduceEqDiff, Nat.reduceLeDiff, true_and, ProgM.enc, NodeM.enc, EqM.enc, VarM.enc, enc_one, enc_len, enc_get43, enc_get47, eqc_get81, eqc_get128, List.length_map, List.length_cons, List.all_cons, one_row, len_row, ba_beqL, bin_rem (show (7 : Int) ≠ 0 by decide), bin_rem (show (1006 : Int) ≠ 0 by decide), tmod7, tmod1006, hw, hm]
            refine hK16 _ _ ?_; try clear hK16 K16
            conv => enter [5]; simp only [setL_cons, setL_nil, List.set_cons_zero, List.set_cons_succ]
            refine AW.cond rfl (fun hc64 => ?_) (fun hc64 => ?_)
            · skip
              exact absurd hc64 (by decide)
            · skip
              refine AW.regl false [72] (by rfl) fun K17 hK17 => ?_ -- region 18
              simp only [go_sem, Nat.reduceAdd, Nat.reduceEqDiff, Nat.reduceLeDiff, true_and, ProgM.enc, NodeM.enc, EqM.enc, VarM.enc, enc_one, enc_len, enc_get43, enc_get47, eqc_get81, eqc_get128, List.length_map, List.length_cons, List.all_cons, one_row, len_row, ba_beqL, bin_rem (show (7 : Int) ≠ 0 by decide), bin_rem (show (1006 : Int) ≠ 0 by decide), tmod7, tmod1006, hw, hm]
              refine hK17 _ _ ?_; try clear hK17 K17
              conv => enter [5]; simp only [setL_cons, setL_nil, List.set_cons_zero, List.set_cons_succ]
              refine AW.cond rfl (fun hc72 => ?_) (fun hc72 => ?_)
              · skip
                exact absurd hc72 (by decide)
              · skip
                refine AW.regl false [84] (by rfl) fun K18 hK18 => ?_ -- region 20
                simp only [go_sem, Nat.reduceAdd, Nat.reduceEqDiff, Nat.reduceLeDiff, true_and, ProgM.enc, NodeM.enc, EqM.enc, VarM.enc, enc_one, enc_len, enc_get43, enc_get47, eqc_get81, eqc_get128, List.length_map, List.length_cons, List.all_cons, one_row, len_row, ba_beqL, bin_rem (show (7 : Int) ≠ 0 by decide), bin_rem (show (1006 : Int) ≠ 0 by decide), tmod7, tmod1006, hw, hm]
                refine hK18 _ _ ?_; try clear hK18 K18
                conv => enter [5]; simp only [setL_cons, setL_nil, List.set_cons_zero, List.set_cons_succ]
                refine AW.cond rfl (fun hc84 => ?_) (fun hc84 => ?_)
                · skip
                  refine AW.lastch mixed [σ ++ [.dead, .cells [.slo false 1 ((l.take (i + 1)).map str) (σ.length + 4), i64 0, i64 0, i64 1, str ⟨#[]⟩, .nilsl], .cells [.val (.string (⟨#[102]⟩)), .nilsl, .sl 2 [.agg [str ⟨#[98]⟩, i64 0]], .nilsl, .osl (σ.length + 1) 0 1 6], .cells [.nilsl], .cap (i + 1) 1, .cells [.val (.string (vS i)), .val (.int .i64 0)]], σ ++ [.dead, .cells [.slo false 1 ((l.take (i + 1)).map str) (σ.length + 4), i64 0, i64 0, i64 1, str ⟨#[]⟩, .nilsl], .cells [.val (.string ⟨#[102]⟩), .nilsl, .sl 2 [.agg [str ⟨#[98]⟩, i64 0]], .nilsl, .osl (σ.length + 1) 0 1 6], .cells [.nilsl], .cap (i + 2) 1, .cells [.val (.string (vS i)), i64 0]], σ ++ [.dead, .cells [.slo false 1 ((l.take (i + 1 + 1)).map str) (σ.length + 4), i64 0, i64 0, i64 1, str ⟨#[]⟩, .nilsl], .cells [.val (.string ⟨#[102]⟩), .nilsl, .sl 2 [.agg [str ⟨#[98]⟩, i64 0]], .nilsl, .osl (σ.length + 1) 0 1 6], .cells [.nilsl], .cap (i + 1 + 1) 1, .cells [.val (.string (vS i)), i64 0]]] [(0, 1, true), (0, 1, true), (0, 0, true), (0, 0, true), (0, 0, true), (0, 0, true), (0, 0, true), (0, 0, true), (0, 0, true), (0, 0, true), (0, 0, false), (1, 1, true), (1, 1, true), (0, 0, false)] [] (by kernel_rfl) (by rfl) (by kernel_rfl) (by rfl) fun K hK => ?_ -- region 21
                  simp only [go_sem, Nat.reduceAdd, Nat.reduceEqDiff, Nat.reduceLeDiff, true_and, ProgM.enc, NodeM.enc, EqM.enc, VarM.enc, enc_one, enc_len, enc_get43, enc_get47, eqc_get81, eqc_get128, List.length_map, List.length_cons, List.all_cons, one_row, len_row, ba_beqL, bin_rem (show (7 : Int) ≠ 0 by decide), bin_rem (show (1006 : Int) ≠ 0 by decide), tmod7, tmod1006, hw, hm, hat, hap, row1_79 _ (str (vS i)) rfl rfl, htk, List.append_assoc, List.cons_append, List.nil_append]
                  refine xE.of (by first | rfl | (simp; done) | (simp; repeat' constructor)) ?_
                  simp only [go_sem, Nat.reduceAdd, Nat.reduceEqDiff, Nat.reduceLeDiff, true_and, ProgM.enc, NodeM.enc, EqM.enc, VarM.enc, enc_one, enc_len, enc_get43, enc_get47, eqc_get81, eqc_get128, List.length_map, List.length_cons, List.all_cons, one_row, len_row, ba_beqL, bin_rem (show (7 : Int) ≠ 0 by decide), bin_rem (show (1006 : Int) ≠ 0 by decide), tmod7, tmod1006, hw, hm, hat, hap, row1_79 _ (str (vS i)) rfl rfl, htk, List.append_assoc, List.cons_append, List.nil_append]
                  refine xE.of (by first | rfl | (simp; done) | (simp; repeat' constructor)) ?_
                  simp only [go_sem, Nat.reduceAdd, Nat.reduceEqDiff, Nat.reduceLeDiff, true_and, ProgM.enc, NodeM.enc, EqM.enc, VarM.enc, enc_one, enc_len, enc_get43, enc_get47, eqc_get81, eqc_get128, List.length_map, List.length_cons, List.all_cons, one_row, len_row, ba_beqL, bin_rem (show (7 : Int) ≠ 0 by decide), bin_rem (show (1006 : Int) ≠ 0 by decide), tmod7, tmod1006, hw, hm, hat, hap, row1_79 _ (str (vS i)) rfl rfl, htk, List.append_assoc, List.cons_append, List.nil_append]
                  refine hK _ fun env' hw => ?_
                  simp only [setL_cons, setL_nil, List.set_cons_zero, List.set_cons_succ, upd_none, upd_at] at hw
                  refine hK10 _ _ (AW.weaken hw ?_); clear hw; try clear hK10 K10
                  refine AW.lastl false [9] (by rfl) fun K hK => ?_ -- region 7
                  simp only [go_sem, Nat.reduceAdd, Nat.reduceEqDiff, Nat.reduceLeDiff, true_and, ProgM.enc, NodeM.enc, EqM.enc, VarM.enc, enc_one, enc_len, enc_get43, enc_get47, eqc_get81, eqc_get128, List.length_map, List.length_cons, List.all_cons, one_row, len_row, ba_beqL, bin_rem (show (7 : Int) ≠ 0 by decide), bin_rem (show (1006 : Int) ≠ 0 by decide), tmod7, tmod1006, hw, hm]
                  refine hK _ _ fun env' hw => ?_
                  simp only [setL_cons, setL_nil, List.set_cons_zero, List.set_cons_succ] at hw
                  refine ⟨i + 1, by omega, by omega, ?_, by first | rfl | (simp [List.take_append, List.take_of_length_le]; done) | (simp [List.take_append, List.take_of_length_le]; repeat' constructor)⟩
                  refine hw.trans ?_
                  simp [Wk, wrap_succ hi1 hl0]
                  try omega
                · skip
                  exact absurd hc84 (by decide)
    · skip
      have hi1 : i = m := by
        have : ¬ i < m := by simpa using hc26
        omega
      refine AW.exit ?_
      refine hK6 _ _ ?_; try clear hK6 K6
      refine AW.seq_k fun K19 hK19 => ?_
      refine AW.still (σ.length + 1) ((app_get σ _ 1).trans rfl) ?_
      simp only [app_set, List.set_cons_zero, List.set_cons_succ, List.map_cons, List.map_nil, still_slof, still_val, still_row, still_sl, still_nil]
      rw [show l.take (i + 1) = l by rw [hi1, ← hll, List.take_length]]
      refine AW.freeze σ.length (σ.length + 1) 1 6 [.agg [rowAV 1 false (l.map str), i64 0, i64 0, i64 1, str ⟨#[]⟩, .nilsl]] ((app_get σ _ 1).trans rfl) (by simp only [List.flatMap_cons, List.flatMap_nil, AV.cells, List.append_nil]) rfl (fun e he => by rw [List.mem_singleton] at he; rw [he]; rfl) ?_
      rw [app_set, subFrom_app]
      conv => enter [5]; simp only [subL, AV.sub]
      conv => enter [6]; simp only [List.set_cons_zero, List.set_cons_succ, List.map_cons, List.map_nil, AO.sub, subL, AV.sub, eq_self, and_self, if_true]
      refine AW.regl false [133] (by rfl) fun K20 hK20 => ?_ -- region 27
      simp only [go_sem, Nat.reduceAdd, Nat.reduceEqDiff, Nat.reduceLeDiff, true_and, ProgM.enc, NodeM.enc, EqM.enc, VarM.enc, enc_one, enc_len, enc_get43, enc_get47, eqc_get81, eqc_get128, List.length_map, List.length_cons, List.all_cons, one_row, len_row, ba_beqL, bin_rem (show (7 : Int) ≠ 0 by decide), bin_rem (show (1006 : Int) ≠ 0 by decide), tmod7, tmod1006, hw, hm]
      refine hK20 _ _ ?_; try clear hK20 K20
      conv => enter [5]; simp only [setL_cons, setL_nil, List.set_cons_zero, List.set_cons_succ]
      refine AW.cond rfl (fun hc133 => ?_) (fun hc133 => ?_)
      · skip
        exact absurd hc133 (by decide)
      · skip
        refine AW.skip ?_
        refine hK19 _ _ ?_; try clear hK19 K19
        refine AW.seq_k fun K21 hK21 => ?_
        refine AW.regl false [151] (by rfl) fun K22 hK22 => ?_ -- region 29
        simp only [go_sem, Nat.reduceAdd, Nat.reduceEqDiff, Nat.reduceLeDiff, true_and, ProgM.enc, NodeM.enc, EqM.enc, VarM.enc, enc_one, enc_len, enc_get43, enc_get47, eqc_get81, eqc_get128, List.length_map, List.length_cons, List.all_cons, one_row, len_row, ba_beqL, bin_rem (show (7 : Int) ≠ 0 by decide), bin_rem (show (1006 : Int) ≠ 0 by decide), tmod7, tmod1006, hw, hm]
        refine hK22 _ _ ?_; try clear hK22 K22
        conv => enter [5]; simp only [setL_cons, setL_nil, List.set_cons_zero, List.set_cons_succ]
        refine AW.cond rfl (fun hc151 => ?_) (fun hc151 => ?_)
        · skip
          refine AW.lastl false [] (by rfl) fun K hK => ?_ -- region 30
          simp only [go_sem, Nat.reduceAdd, Nat.reduceEqDiff, Nat.reduceLeDiff, true_and, ProgM.enc, NodeM.enc, EqM.enc, VarM.enc, enc_one, enc_len, enc_get43, enc_get47, eqc_get81, eqc_get128, List.length_map, List.length_cons, List.all_cons, one_row, len_row, ba_beqL, bin_rem (show (7 : Int) ≠ 0 by decide), bin_rem (show (1006 : Int) ≠ 0 by decide), tmod7, tmod1006, hw, hm, row1_85 _ (.agg [str ⟨#[102]⟩, .nilsl, .sl 2 [.agg [str ⟨#[98]⟩, i64 0]], .nilsl, .sl 6 [.agg [rowAV 1 false (l.map str), i64 0, i64 0, i64 1, str ⟨#[]⟩, .nilsl]]]) rfl (by simp only [AV.cells, List.all_cons, List.all_nil, one_row, one_str, one_sl, one_nilsl, Bool.and_true])]
          refine hK _ _ fun env' hw => ?_
          simp only [setL_cons, setL_nil, List.set_cons_zero, List.set_cons_succ] at hw
          refine hK21 _ _ (AW.weaken hw ?_); clear hw; try clear hK21 K21
          rw [hpc]
          refine AW.regl false [11] (by rfl) fun K23 hK23 => ?_ -- region 31
          simp only [go_sem, Nat.reduceAdd, Nat.reduceEqDiff, Nat.reduceLeDiff, true_and, ProgM.enc, NodeM.enc, EqM.enc, VarM.enc, enc_one, enc_len, enc_get43, enc_get47, eqc_get81, eqc_get128, List.length_map, List.length_cons, List.all_cons, one_row, len_row, ba_beqL, bin_rem (show (7 : Int) ≠ 0 by decide), bin_rem (show (1006 : Int) ≠ 0 by decide), tmod7, tmod1006, hw, hm]
          refine sC.of en33 ((oprog_calls p hpk).on _).here (by rfl) ?_
          simp only [go_sem, Nat.reduceAdd, Nat.reduceEqDiff, Nat.reduceLeDiff, true_and, ProgM.enc, NodeM.enc, EqM.enc, VarM.enc, enc_one, enc_len, enc_get43, enc_get47, eqc_get81, eqc_get128, List.length_map, List.length_cons, List.all_cons, one_row, len_row, ba_beqL, bin_rem (show (7 : Int) ≠ 0 by decide), bin_rem (show (1006 : Int) ≠ 0 by decide), tmod7, tmod1006, hw, hm]
          refine hK23 _ _ ?_; try clear hK23 K23
          conv => enter [5]; simp only [setL_cons, setL_nil, List.set_cons_zero, List.set_cons_succ, upd_none, upd_at]
          refine AW.regtdf mixed false 4 (.val (.bool (true))) (by kernel_rfl) (by rfl) ?_ ?_ -- region 32
          · skip
            cases h166 : (((p.nodes.length : Int) == 0))
            · skip
              simp only [go_sem, Nat.reduceAdd, Nat.reduceEqDiff, Nat.reduceLeDiff, true_and, ProgM.enc, NodeM.enc, EqM.enc, VarM.enc, enc_one, enc_len, enc_get43, enc_get47, eqc_get81, eqc_get128, List.length_map, List.length_cons, List.all_cons, one_row, len_row, ba_beqL, bin_rem (show (7 : Int) ≠ 0 by decide), bin_rem (show (1006 : Int) ≠ 0 by decide), tmod7, tmod1006, hw, hm, hya, hza, bin_beql tyBool4, beq_self_eq_true, h166]
              refine qC.of en34 (hR34.on _).here (by rfl) ?_
              simp only [go_sem, Nat.reduceAdd, Nat.reduceEqDiff, Nat.reduceLeDiff, true_and, ProgM.enc, NodeM.enc, EqM.enc, VarM.enc, enc_one, enc_len, enc_get43, enc_get47, eqc_get81, eqc_get128, List.length_map, List.length_cons, List.all_cons, one_row, len_row, ba_beqL, bin_rem (show (7 : Int) ≠ 0 by decide), bin_rem (show (1006 : Int) ≠ 0 by decide), tmod7, tmod1006, hw, hm, hya, hza, bin_beql tyBool4, beq_self_eq_true, h166]
              refine qC.of en35 ((rpright_calls p hpk).on _).here (by rfl) ?_
              simp only [go_sem, Nat.reduceAdd, Nat.reduceEqDiff, Nat.reduceLeDiff, true_and, ProgM.enc, NodeM.enc, EqM.enc, VarM.enc, enc_one, enc_len, enc_get43, enc_get47, eqc_get81, eqc_get128, List.length_map, List.length_cons, List.all_cons, one_row, len_row, ba_beqL, bin_rem (show (7 : Int) ≠ 0 by decide), bin_rem (show (1006 : Int) ≠ 0 by decide), tmod7, tmod1006, hw, hm, hya, hza, bin_beql tyBool4, beq_self_eq_true, h166]
              refine qC.of en36 (hR36.on _).here (by rfl) ?_
              simp only [go_sem, Nat.reduceAdd, Nat.reduceEqDiff, Nat.reduceLeDiff, true_and, ProgM.enc, NodeM.enc, EqM.enc, VarM.enc, enc_one, enc_len, enc_get43, enc_get47, eqc_get81, eqc_get128, List.length_map, List.length_cons, List.all_cons, one_row, len_row, ba_beqL, bin_rem (show (7 : Int) ≠ 0 by decide), bin_rem (show (1006 : Int) ≠ 0 by decide), tmod7, tmod1006, hw, hm, hya, hza, bin_beql tyBool4, beq_self_eq_true, h166]
              refine qC.of en37 ((rnright_calls nd hnd).on _).here (by rfl) ?_
              simp only [go_sem, Nat.reduceAdd, Nat.reduceEqDiff, Nat.reduceLeDiff, true_and, ProgM.enc, NodeM.enc, EqM.enc, VarM.enc, enc_one, enc_len, enc_get43, enc_get47, eqc_get81, eqc_get128, List.length_map, List.length_cons, List.all_cons, one_row, len_row, ba_beqL, bin_rem (show (7 : Int) ≠ 0 by decide), bin_rem (show (1006 : Int) ≠ 0 by decide), tmod7, tmod1006, hw, hm, hya, hza, bin_beql tyBool4, beq_self_eq_true, h166]
              refine qC.of en23 ((aawake_calls hΓ).on _).here (by rfl) ?_
              simp only [go_sem, Nat.reduceAdd, Nat.reduceEqDiff, Nat.reduceLeDiff, true_and, ProgM.enc, NodeM.enc, EqM.enc, VarM.enc, enc_one, enc_len, enc_get43, enc_get47, eqc_get81, eqc_get128, List.length_map, List.length_cons, List.all_cons, one_row, len_row, ba_beqL, bin_rem (show (7 : Int) ≠ 0 by decide), bin_rem (show (1006 : Int) ≠ 0 by decide), tmod7, tmod1006, hw, hm, hya, hza, bin_beql tyBool4, beq_self_eq_true, h166]
              try simp [upd_at, h166, ProgM.enc, NodeM.enc, EqM.enc, VarM.enc, enc_one, enc_len, enc_get43, enc_get47, eqc_get81, eqc_get128, List.length_map, List.length_cons, List.all_cons, one_row, len_row, ba_beqL, bin_rem (show (7 : Int) ≠ 0 by decide), bin_rem (show (1006 : Int) ≠ 0 by decide), tmod7, tmod1006, hw, hm, hya, hza, bin_beql tyBool4, beq_self_eq_true]
            · skip
              simp only [go_sem, Nat.reduceAdd, Nat.reduceEqDiff, Nat.reduceLeDiff, true_and, ProgM.enc, NodeM.enc, EqM.enc, VarM.enc, enc_one, enc_len, enc_get43, enc_get47, eqc_get81, eqc_get128, List.length_map, List.length_cons, List.all_cons, one_row, len_row, ba_beqL, bin_rem (show (7 : Int) ≠ 0 by decide), bin_rem (show (1006 : Int) ≠ 0 by decide), tmod7, tmod1006, hw, hm, hya, hza, bin_beql tyBool4, beq_self_eq_true, h166]
              refine qC.of en34 (hR34.on _).here (by rfl) ?_
              simp only [go_sem, Nat.reduceAdd, Nat.reduceEqDiff, Nat.reduceLeDiff, true_and, ProgM.enc, NodeM.enc, EqM.enc, VarM.enc, enc_one, enc_len, enc_get43, enc_get47, eqc_get81, eqc_get128, List.length_map, List.length_cons, List.all_cons, one_row, len_row, ba_beqL, bin_rem (show (7 : Int) ≠ 0 by decide), bin_rem (show (1006 : Int) ≠ 0 by decide), tmod7, tmod1006, hw, hm, hya, hza, bin_beql tyBool4, beq_self_eq_true, h166]
              refine qC.of en35 ((rpright_calls p hpk).on _).here (by rfl) ?_
              simp only [go_sem, Nat.reduceAdd, Nat.reduceEqDiff, Nat.reduceLeDiff, true_and, ProgM.enc, NodeM.enc, EqM.enc, VarM.enc, enc_one, enc_len, enc_get43, enc_get47, eqc_get81, eqc_get128, List.length_map, List.length_cons, List.all_cons, one_row, len_row, ba_beqL, bin_rem (show (7 : Int) ≠ 0 by decide), bin_rem (show (1006 : Int) ≠ 0 by decide), tmod7, tmod1006, hw, hm, hya, hza, bin_beql tyBool4, beq_self_eq_true, h166]
              refine qC.of en23 ((aawake_calls hΓ).on _).here (by rfl) ?_
              simp only [go_sem, Nat.reduceAdd, Nat.reduceEqDiff, Nat.reduceLeDiff, true_and, ProgM.enc, NodeM.enc, EqM.enc, VarM.enc, enc_one, enc_len, enc_get43, enc_get47, eqc_get81, eqc_get128, List.length_map, List.length_cons, List.all_cons, one_row, len_row, ba_beqL, bin_rem (show (7 : Int) ≠ 0 by decide), bin_rem (show (1006 : Int) ≠ 0 by decide), tmod7, tmod1006, hw, hm, hya, hza, bin_beql tyBool4, beq_self_eq_true, h166]
              try simp [upd_at, h166, ProgM.enc, NodeM.enc, EqM.enc, VarM.enc, enc_one, enc_len, enc_get43, enc_get47, eqc_get81, eqc_get128, List.length_map, List.length_cons, List.all_cons, one_row, len_row, ba_beqL, bin_rem (show (7 : Int) ≠ 0 by decide), bin_rem (show (1006 : Int) ≠ 0 by decide), tmod7, tmod1006, hw, hm, hya, hza, bin_beql tyBool4, beq_self_eq_true]
          conv => enter [5]; simp only [List.set_cons_zero, List.set_cons_succ]
          refine AW.ret ⟨.inr rfl, _, rfl, by simp, ?_⟩ -- return 1
          exact .keep rfl
        · skip
          exact absurd hc151 (by decide)

set_option maxRecDepth 100000 in
set_option maxHeartbeats 1000000 in
theorem lists6 (hΓ : Words Γ) (n x : Nat) (hn : n < 65536) (hx : x < 256) (hw : x % 7 = 6) : APure prog Γ 6 [.val (.int .u16 (n : Nat)), .val (.int .u8 (x : Nat))] (bool true) := by
  refine APure.of func6 rfl fun σ => ?_
  simp only [ntmps6, List.length_cons, List.length_nil, Nat.reduceAdd, Nat.reduceSub, List.replicate_succ, List.replicate_zero, List.cons_append, List.nil_append]
  have hwn : IntKind.wrap .i64 ((n : Nat) : Int) = (n : Nat) := wrap_i64 (by omega) (by omega)
  obtain ⟨m, hm⟩ : ∃ m, n % 1006 = m := ⟨_, rfl⟩
  have hm5 : m ≤ 1005 := by omega
  have hl0 : m ≤ maxLen := by rw [maxLen_eq]; omega
  obtain ⟨l, hll, hli, hlm⟩ := tab_ex (fun _ => e1) m
  have he6 := e6_ok hll hm5 hlm
  have hat0 := at_osl0 (sz := 6) (o := σ.length + 1) (off := 0) (n := 0) (k := .i64)
  obtain ⟨nd, hnde⟩ : ∃ z : NodeM, z = ⟨sF, true, [], false, [bN], true, [], false, [⟨false, [sB], .mk 6 0 0 sG true l⟩]⟩ := ⟨_, rfl⟩
  obtain ⟨p, hpe⟩ : ∃ z : ProgM, z = ⟨false, [nd]⟩ := ⟨_, rfl⟩
  have hnd : nd.ok := by
    rw [hnde]
    exact ⟨by show (1 : Nat) ≤ 1100000; omega, nil_ok, bs_ok, nil_ok, by show (1 : Nat) ≤ 1100000; omega, fun q hq => by
      rw [List.mem_singleton] at hq
      rw [hq]
      refine ⟨⟨by show (1 : Nat) ≤ 1100000; omega, fun s hs => ?_⟩, he6⟩
      rw [List.mem_singleton] at hs
      rw [hs]
      show (1 : Nat) ≤ 1100000
      omega⟩
  have hpk : p.ok := by rw [hpe]; exact p1_ok hnd
  have hpn : p.nodes = [nd] := by rw [hpe]
  have hpl : p.nodes.length = 1 := by rw [hpn]; rfl
  have hy0 : (p.own.nodes.map NodeM.enc)[0]? = some nd.own.enc := by rw [ProgM.own, hpn]; rfl
  have hz0 : (p.nodes.map NodeM.enc)[0]? = some nd.enc := by rw [hpn]; rfl
  have hya : aAt 5 (rowAV 5 p.own.nl (p.own.nodes.map NodeM.enc)) (.val (.int .i64 0)) = some (.er nd.own.enc.cells) := at_row (i := 0) hy0
  have hza : aAt 5 (rowAV 5 p.nl (p.nodes.map NodeM.enc)) (.val (.int .i64 0)) = some (.er nd.enc.cells) := at_row (i := 0) hz0
  have hR34 : APure prog Γ 34 [p.own.enc] (bool p.right) := by rw [← progown_right]; exact pright_calls hΓ p.own (progown_ok hpk)
  have hR36 : APure prog Γ 36 [nd.own.enc] (bool nd.right) := by rw [← nodeown_right]; exact nright_calls hΓ nd.own (nodeown_ok hnd)
  have hpc : ([.sl 5 [.agg [str ⟨#[102]⟩, .nilsl, .sl 2 [.agg [str ⟨#[98]⟩, i64 0]], .nilsl, .sl 6 [.agg [.sl 1 [str ⟨#[98]⟩], i64 6, i64 0, i64 0, str ⟨#[103]⟩, rowAV 5 true (l.map E.enc)]]]]] : List AV) = p.enc.cells := by rw [← q6_enc, hpe, hnde]; rfl
  refine AW.regl false [4] (by rfl) fun K1 hK1 => ?_ -- region 0
  simp only [go_sem, Nat.reduceAdd, Nat.reduceEqDiff, Nat.reduceLeDiff, true_and, ProgM.enc, NodeM.enc, EqM.enc, VarM.enc, enc_one, enc_len, enc_get43, enc_get47, eqc_get81, eqc_get128, List.length_map, List.length_cons, List.all_cons, one_row, len_row, ba_beqL, bin_rem (show (7 : Int) ≠ 0 by decide), bin_rem (show (1006 : Int) ≠ 0 by decide), tmod7, tmod1006, hw, hm]
  refine hK1 _ _ ?_; try clear hK1 K1
  conv => enter [5]; simp only [setL_cons, setL_nil, List.set_cons_zero, List.set_cons_succ]
  refine AW.regl false [5] (by rfl) fun K2 hK2 => ?_ -- region 1
  simp only [go_sem, Nat.reduceAdd, Nat.reduceEqDiff, Nat.reduceLeDiff, true_and, ProgM.enc, NodeM.enc, EqM.enc, VarM.enc, enc_one, enc_len, enc_get43, enc_get47, eqc_get81, eqc_get128, List.length_map, List.length_cons, List.all_cons, one_row, len_row, ba_beqL, bin_rem (show (7 : Int) ≠ 0 by decide), bin_rem (show (1006 : Int) ≠ 0 by decide), tmod7, tmod1006, hw, hm, hwn]
  refine hK2 _ _ ?_; try clear hK2 K2
  conv => enter [5]; simp only [setL_cons, setL_nil, List.set_cons_zero, List.set_cons_succ]
  refine AW.regl false [6] (by rfl) fun K3 hK3 => ?_ -- region 2
  simp only [go_sem, Nat.reduceAdd, Nat.reduceEqDiff, Nat.reduceLeDiff, true_and, ProgM.enc, NodeM.enc, EqM.enc, VarM.enc, enc_one, enc_len, enc_get43, enc_get47, eqc_get81, eqc_get128, List.length_map, List.length_cons, List.all_cons, one_row, len_row, ba_beqL, bin_rem (show (7 : Int) ≠ 0 by decide), bin_rem (show (1006 : Int) ≠ 0 by decide), tmod7, tmod1006, hw, hm]
  refine hK3 _ _ ?_; try clear hK3 K3
  conv => enter [5]; simp only [setL_cons, setL_nil, List.set_cons_zero, List.set_cons_succ]
  refine AW.regl true [7] (by rfl) fun K4 hK4 => ?_ -- region 3
  simp only [go_sem, Nat.reduceAdd, Nat.reduceEqDiff, Nat.reduceLeDiff, true_and, ProgM.enc, NodeM.enc, EqM.enc, VarM.enc, enc_one, enc_len, enc_get43, enc_get47, eqc_get81, eqc_get128, List.length_map, List.length_cons, List.all_cons, one_row, len_row, ba_beqL, bin_rem (show (7 : Int) ≠ 0 by decide), bin_rem (show (1006 : Int) ≠ 0 by decide), tmod7, tmod1006, hw, hm, rowm79 _ (str ⟨#[98]⟩) rfl rfl, rowm82 _ (.agg [.osl σ.length 0 1 1, i64 0, i64 0, i64 1, str ⟨#[]⟩, .nilsl]) rfl rfl, hold_len, List.append_assoc, List.cons_append, List.nil_append]
  refine hK4 _ _ ?_; try clear hK4 K4
  conv => enter [5]; simp only [setL_cons, setL_nil, List.set_cons_zero, List.set_cons_succ, upd_none, upd_at]
  refine AW.regl false [8] (by rfl) fun K5 hK5 => ?_ -- region 4
  simp only [go_sem, Nat.reduceAdd, Nat.reduceEqDiff, Nat.reduceLeDiff, true_and, ProgM.enc, NodeM.enc, EqM.enc, VarM.enc, enc_one, enc_len, enc_get43, enc_get47, eqc_get81, eqc_get128, List.length_map, List.length_cons, List.all_cons, one_row, len_row, ba_beqL, bin_rem (show (7 : Int) ≠ 0 by decide), bin_rem (show (1006 : Int) ≠ 0 by decide), tmod7, tmod1006, hw, hm]
  refine hK5 _ _ ?_; try clear hK5 K5
  conv => enter [5]; simp only [setL_cons, setL_nil, List.set_cons_zero, List.set_cons_succ, upd_none, upd_at]
  refine AW.seq_k fun K6 hK6 => ?_
  refine AW.regl false [9] (by rfl) fun K7 hK7 => ?_ -- region 5
  simp only [go_sem, Nat.reduceAdd, Nat.reduceEqDiff, Nat.reduceLeDiff, true_and, ProgM.enc, NodeM.enc, EqM.enc, VarM.enc, enc_one, enc_len, enc_get43, enc_get47, eqc_get81, eqc_get128, List.length_map, List.length_cons, List.all_cons, one_row, len_row, ba_beqL, bin_rem (show (7 : Int) ≠ 0 by decide), bin_rem (show (1006 : Int) ≠ 0 by decide), tmod7, tmod1006, hw, hm]
  refine hK7 _ _ ?_; try clear hK7 K7
  conv => enter [5]; simp only [setL_cons, setL_nil, List.set_cons_zero, List.set_cons_succ]
  refine AW.freeze σ.length σ.length 1 1 [str ⟨#[98]⟩] ((app_get0 σ _).trans rfl) rfl rfl (fun e he => by rw [List.mem_singleton] at he; rw [he]; rfl) ?_
  rw [set0, subFrom_app]
  conv => enter [5]; simp only [subL, AV.sub]
  conv => enter [6]; simp only [List.map_cons, List.map_nil, AO.sub, subL, AV.sub, eq_self, and_self, if_true, succ_ne, two_ne, false_and, if_false]
  refine AW.cap 5 ?_
  simp only [List.append_assoc, List.cons_append, List.nil_append]
  refine AW.own (σ.length + 1) 5 (σ.length + 4) ((app_get σ _ 1).trans rfl) rfl ((app_get σ _ 4).trans rfl) (by decide) ?_
  simp only [app_set, List.set_cons_zero, List.set_cons_succ]
  refine AW.block ?_
  refine AW.loop_dr (α := Nat) (fun i => [.any, (.val (.int .u8 ((x : Nat) : Int))), .any, .any, .any, (.val (.int .i64 ((m : Nat) : Int))), (.sl 2 [.agg [str ⟨#[98]⟩, i64 0]]), (.ref (σ.length + 2) 0), (.ref (σ.length + 3) 0), (.val (.int .i64 ((i : Nat) : Int))), .any, .any, .any, .any, .any, .any, .any, .any, .any, .any, .any, .any, .any, .any, .any, .any, .any, .any, .any, .any, .any, .any, .any, .any, .any, .any, .any, .any, .any, .any, .any, .any, .any, .any, .any, .any, .any, .any, .any, .any, .any, .any, .any, .any, .any, .any, .any, .any, .any, .any, .any, .any, .any, .any, .any, .any, .any, .any, .any, .any, .any, .any, .any, .any, .any, .any, .any, .any, .any, .any, .any, .any, .any, .any, .any, .any, .any, .any, .any, .any, .any, .any, .any, .any, .any, .any, .any, .any, .any, .any, .any, .any, .any, .any, .any, .any, .any, .any, .any, .any, .any, .any, .any, .any, .any, .any, .any, .any, .any, .any, .any, .any, .any, .any, .any, .any, .any, .any, .any, .any, .any, .any, .any, .any, .any, .any, .any, .any, .any, .any, .any, .any, .any, .any, .any, .any, .any, .any, .any, .any, .any, .any, .any, .any, .any, .any, .any, .any, .any, .any, .any, .any, .any, .any, .any, .any, .any, .any, .any, .any, .any, .any, .any, .any, .any, .any, .any, .any, .any, .any, .any, .any, .any, .any]) (fun i => σ ++ [.dead, .cells [.sl 1 [str ⟨#[98]⟩], i64 0, i64 0, i64 1, str ⟨#[]⟩, .slo true 5 ((l.take i).map E.enc) (σ.length + 4)], .cells [.val (.string (⟨#[102]⟩)), .nilsl, .sl 2 [.agg [str ⟨#[98]⟩, i64 0]], .nilsl, .osl (σ.length + 1) 0 1 6], .cells [.nilsl], .cap i 5]) (fun i => m - i) (fun i => i ≤ m) 0 ?_ ?_ ?_
  · exact ⟨Nat.zero_le _, by simp [Wk], rfl⟩
  · refine fun y hy => ⟨by simp [belL, AV.bel], bel_app σ fun a ha => ?_⟩
    simp only [List.mem_cons, List.not_mem_nil, or_false] at ha
    simp only [List.length_append, List.length_cons, List.length_nil]
    rcases ha with rfl | rfl | rfl | rfl | rfl
    · rfl
    · simp only [AO.bel, belL, AV.bel, Bool.true_and, Bool.and_true, Bool.and_eq_true, decide_eq_true_eq]
      exact ⟨by omega, belL_map _ _ fun x _ => enc_bel _ x⟩
    · simp [AO.bel, belL, AV.bel]
    · rfl
    · rfl
  · intro i hi
    refine AW.seq_k fun K8 hK8 => ?_
    refine AW.regl false [26] (by rfl) fun K9 hK9 => ?_ -- region 6
    simp only [go_sem, Nat.reduceAdd, Nat.reduceEqDiff, Nat.reduceLeDiff, true_and, ProgM.enc, NodeM.enc, EqM.enc, VarM.enc, enc_one, enc_len, enc_get43, enc_get47, eqc_get81, eqc_get128, List.length_map, List.length_cons, List.all_cons, one_row, len_row, ba_beqL, bin_rem (show (7 : Int) ≠ 0 by decide), bin_rem (show (1006 : Int) ≠ 0 by decide), tmod7, tmod1006, hw, hm]
    refine hK9 _ _ ?_; try clear hK9 K9
    conv => enter [5]; simp only [setL_cons, setL_nil, List.set_cons_zero, List.set_cons_succ]
    refine AW.cond rfl (fun hc26 => ?_) (fun hc26 => ?_)
    · skip
      have hi1 : i < m := by simpa using hc26
      have hcv := cat_v i
      have hil : i < l.length := by omega
      have hap := app_at (en := E.enc) hil (by omega) true 5 64 (by decide)
      have hat := at_osl0 (sz := 6) (o := σ.length + 1) (off := 0) (n := 0) (k := .i64)
      have htk : (l.take i).map E.enc ++ [.agg [i64 0, i64 0, i64 1, str ⟨#[]⟩, .nilsl]] = (l.take (i + 1)).map E.enc := by
        rw [← take_at E.enc hil, hli i hil, e1_enc]
      refine AW.skip ?_
      refine hK8 _ _ ?_; try clear hK8 K8
      refine AW.seq_k fun K10 hK10 => ?_
      refine AW.block ?_
      refine AW.regl false [10] (by rfl) fun K11 hK11 => ?_ -- region 8
      simp only [go_sem, Nat.reduceAdd, Nat.reduceEqDiff, Nat.reduceLeDiff, true_and, ProgM.enc, NodeM.enc, EqM.enc, VarM.enc, enc_one, enc_len, enc_get43, enc_get47, eqc_get81, eqc_get128, List.length_map, List.length_cons, List.all_cons, one_row, len_row, ba_beqL, bin_rem (show (7 : Int) ≠ 0 by decide), bin_rem (show (1006 : Int) ≠ 0 by decide), tmod7, tmod1006, hw, hm, hcv]
      refine sC.of en32 ((number_calls i (by omega)).on _).here (by rfl) ?_
      simp only [go_sem, Nat.reduceAdd, Nat.reduceEqDiff, Nat.reduceLeDiff, true_and, ProgM.enc, NodeM.enc, EqM.enc, VarM.enc, enc_one, enc_len, enc_get43, enc_get47, eqc_get81, eqc_get128, List.length_map, List.length_cons, List.all_cons, one_row, len_row, ba_beqL, bin_rem (show (7 : Int) ≠ 0 by decide), bin_rem (show (1006 : Int) ≠ 0 by decide), tmod7, tmod1006, hw, hm, hcv]
      refine hK11 _ _ ?_; try clear hK11 K11
      conv => enter [5]; simp only [setL_cons, setL_nil, List.set_cons_zero, List.set_cons_succ, upd_none, upd_at]
      refine AW.regl false [34] (by rfl) fun K12 hK12 => ?_ -- region 9
      simp only [go_sem, Nat.reduceAdd, Nat.reduceEqDiff, Nat.reduceLeDiff, true_and, ProgM.enc, NodeM.enc, EqM.enc, VarM.enc, enc_one, enc_len, enc_get43, enc_get47, eqc_get81, eqc_get128, List.length_map, List.length_cons, List.all_cons, one_row, len_row, ba_beqL, bin_rem (show (7 : Int) ≠ 0 by decide), bin_rem (show (1006 : Int) ≠ 0 by decide), tmod7, tmod1006, hw, hm]
      refine hK12 _ _ ?_; try clear hK12 K12
      conv => enter [5]; simp only [setL_cons, setL_nil, List.set_cons_zero, List.set_cons_succ]
      refine AW.block ?_
      refine AW.regl false [35] (by rfl) fun K13 hK13 => ?_ -- region 10
      simp only [go_sem, Nat.reduceAdd, Nat.reduceEqDiff, Nat.reduceLeDiff, true_and, ProgM.enc, NodeM.enc, EqM.enc, VarM.enc, enc_one, enc_len, enc_get43, enc_get47, eqc_get81, eqc_get128, List.length_map, List.length_cons, List.all_cons, one_row, len_row, ba_beqL, bin_rem (show (7 : Int) ≠ 0 by decide), bin_rem (show (1006 : Int) ≠ 0 by decide), tmod7, tmod1006, hw, hm]
      refine hK13 _ _ ?_; try clear hK13 K13
      conv => enter [5]; simp only [setL_cons, setL_nil, List.set_cons_zero, List.set_cons_succ]
      refine AW.cond rfl (fun hc35 => ?_) (fun hc35 => ?_)
      · skip
        exact absurd hc35 (by decide)
      · skip
        refine AW.regl false [48] (by rfl) fun K14 hK14 => ?_ -- region 12
        simp only [go_sem, Nat.reduceAdd, Nat.reduceEqDiff, Nat.reduceLeDiff, true_and, ProgM.enc, NodeM.enc, EqM.enc, VarM.enc, enc_one, enc_len, enc_get43, enc_get47, eqc_get81, eqc_get128, List.length_map, List.length_cons, List.all_cons, one_row, len_row, ba_beqL, bin_rem (show (7 : Int) ≠ 0 by decide), bin_rem (show (1006 : Int) ≠ 0 by decide), tmod7, tmod1006, hw, hm]
        refine hK14 _ _ ?_; try clear hK14 K14
        conv => enter [5]; simp only [setL_cons, setL_nil, List.set_cons_zero, List.set_cons_succ]
        refine AW.cond rfl (fun hc48 => ?_) (fun hc48 => ?_)
        · skip
          exact absurd hc48 (by decide)
        · skip
          refine AW.regl false [56] (by rfl) fun K15 hK15 => ?_ -- region 14
          simp only [go_sem, Nat.reduceAdd, Nat.reduceEqDiff, Nat.reduceLeDiff, true_and, ProgM.enc, NodeM.enc, EqM.enc, VarM.enc, enc_one, enc_len, enc_get43, enc_get47, eqc_get81, eqc_get128, List.length_map, List.length_cons, List.all_cons, one_row, len_row, ba_beqL, bin_rem (show (7 : Int) ≠ 0 by decide), bin_rem (show (1006 : Int) ≠ 0 by decide), tmod7, tmod1006, hw, hm]
          refine hK15 _ _ ?_; try clear hK15 K15
          conv => enter [5]; simp only [setL_cons, setL_nil, List.set_cons_zero, List.set_cons_succ]
          refine AW.cond rfl (fun hc56 => ?_) (fun hc56 => ?_)
          · skip
            exact absurd hc56 (by decide)
          · skip
            refine AW.regl false [64] (by rfl) fun K16 hK16 => ?_ -- region 16
            simp only [go_sem, Nat.reduceAdd, Nat.reduceEqDiff, Nat.reduceLeDiff, true_and, ProgM.enc, NodeM.enc, EqM.enc, VarM.enc, enc_one, enc_len, enc_get43, enc_get47, eqc_get81, eqc_get128, List.length_map, List.length_cons, List.all_cons, one_row, len_row, ba_beqL, bin_rem (show (7 : Int) ≠ 0 by decide), bin_rem (show (1006 : Int) ≠ 0 by decide), tmod7, tmod1006, hw, hm]
            refine hK16 _ _ ?_; try clear hK16 K16
            conv => enter [5]; simp only [setL_cons, setL_nil, List.set_cons_zero, List.set_cons_succ]
            refine AW.cond rfl (fun hc64 => ?_) (fun hc64 => ?_)
            · skip
              exact absurd hc64 (by decide)
            · skip
              refine AW.regl false [72] (by rfl) fun K17 hK17 => ?_ -- region 18
              simp only [go_sem, Nat.reduceAdd, Nat.reduceEqDiff, Nat.reduceLeDiff, true_and, ProgM.enc, NodeM.enc, EqM.enc, VarM.enc, enc_one, enc_len, enc_get43, enc_get47, eqc_get81, eqc_get128, List.length_map, List.length_cons, List.all_cons, one_row, len_row, ba_beqL, bin_rem (show (7 : Int) ≠ 0 by decide), bin_rem (show (1006 : Int) ≠ 0 by decide), tmod7, tmod1006, hw, hm]
              refine hK17 _ _ ?_; try clear hK17 K17
              conv => enter [5]; simp only [setL_cons, setL_nil, List.set_cons_zero, List.set_cons_succ]
              refine AW.cond rfl (fun hc72 => ?_) (fun hc72 => ?_)
              · skip
                exact absurd hc72 (by decide)
              · skip
                refine AW.regl false [84] (by rfl) fun K18 hK18 => ?_ -- region 20
                simp only [go_sem, Nat.reduceAdd, Nat.reduceEqDiff, Nat.reduceLeDiff, true_and, ProgM.enc, NodeM.enc, EqM.enc, VarM.enc, enc_one, enc_len, enc_get43, enc_get47, eqc_get81, eqc_get128, List.length_map, List.length_cons, List.all_cons, one_row, len_row, ba_beqL, bin_rem (show (7 : Int) ≠ 0 by decide), bin_rem (show (1006 : Int) ≠ 0 by decide), tmod7, tmod1006, hw, hm]
                refine hK18 _ _ ?_; try clear hK18 K18
                conv => enter [5]; simp only [setL_cons, setL_nil, List.set_cons_zero, List.set_cons_succ]
                refine AW.cond rfl (fun hc84 => ?_) (fun hc84 => ?_)
                · skip
                  exact absurd hc84 (by decide)
                · skip
                  refine AW.regl false [99] (by rfl) fun K19 hK19 => ?_ -- region 22
                  simp only [go_sem, Nat.reduceAdd, Nat.reduceEqDiff, Nat.reduceLeDiff, true_and, ProgM.enc, NodeM.enc, EqM.enc, VarM.enc, enc_one, enc_len, enc_get43, enc_get47, eqc_get81, eqc_get128, List.length_map, List.length_cons, List.all_cons, one_row, len_row, ba_beqL, bin_rem (show (7 : Int) ≠ 0 by decide), bin_rem (show (1006 : Int) ≠ 0 by decide), tmod7, tmod1006, hw, hm]
                  refine hK19 _ _ ?_; try clear hK19 K19
                  conv => enter [5]; simp only [setL_cons, setL_nil, List.set_cons_zero, List.set_cons_succ]
                  refine AW.cond rfl (fun hc99 => ?_) (fun hc99 => ?_)
                  · skip
                    refine AW.coin mixed (by kernel_rfl) (by kernel_rfl) (by kernel_rfl) rfl rfl (by decide) ?_ (fun b c env' he => ?_) (fun c env' he => ?_) fun b23 => ?_ -- region 23
                    · simp only [aop, zero4]
                      try rfl
                    · simp only [aop, opnd, List.getD_eq_getElem?_getD, he, Option.getD_some, sto4, go_sem]
                      try rfl
                    · simp only [aop, opnd, List.getD_eq_getElem?_getD, he, Option.getD_some, go_sem]
                      try rfl
                    conv => enter [5]; simp only [List.set_cons_zero, List.set_cons_succ]
                    conv => enter [6]; simp only [List.append_assoc, List.cons_append, List.nil_append]
                    refine AW.cond rfl (fun hc102 => ?_) (fun hc102 => ?_)
                    · skip
                      refine AW.lastseql [104, 108, 109, 110, 111] 9 3 rfl rfl rfl (by simp) fun K hK => ?_
                      simp only [go_sem, Nat.reduceAdd, Nat.reduceEqDiff, Nat.reduceLeDiff, true_and, ProgM.enc, NodeM.enc, EqM.enc, VarM.enc, enc_one, enc_len, enc_get43, enc_get47, eqc_get81, eqc_get128, List.length_map, List.length_cons, List.all_cons, one_row, len_row, List.take_succ_cons, List.take_zero, hat, zz43, row1_41 _ (.agg [i64 0, i64 0, i64 0, str ⟨#[]⟩, .nilsl]) rfl rfl]
                      refine hK _ _ ?_
                      simp only [setL_cons, setL_nil, List.set_cons_zero, List.set_cons_succ]
                      refine seqK.of (nl := true) (sz := 5) (es := (l.take i).map E.enc) (k := σ.length + 4) (d := .agg [i64 0, i64 0, i64 0, str ⟨#[]⟩, .nilsl]) (v := .agg [i64 0, i64 0, i64 1, str ⟨#[]⟩, .nilsl]) (o := σ.length + 1) (off := 5) (env' := ?e) rfl (late8 ((app_get σ _ 4).trans rfl) (by simp; omega) (by omega)) ((src41 _).trans rfl) ?hi rfl rfl rfl (by kernel_rfl) (by kernel_rfl) ?hadr ?ha ((app_get σ _ 1).trans rfl) ?hoff (by kernel_rfl) ?hk
                      case hadr =>
                        simp only [Nat.reduceAdd, List.drop_succ_cons, List.drop_zero, List.take_succ_cons, List.take_zero, adrs, adr1, List.set_cons_zero, List.set_cons_succ, opnd, List.getD_cons_succ, List.getD_cons_zero, go_sem, hat]
                        rfl
                      case hi => first | rfl | (simp only [opnd, List.getD_cons_succ, List.getD_cons_zero, List.length_map])
                      case ha => rfl
                      case hoff => simp
                      case hk =>
                        rw [htk, List.length_map, List.length_take, Nat.min_eq_left (by omega)]
                        simp only [app_set, List.set_cons_zero, List.set_cons_succ, aSplice, List.take_succ_cons, List.take_zero, List.drop_succ_cons, List.drop_zero, List.length_cons, List.length_nil, Nat.reduceAdd, Nat.zero_add, List.cons_append, List.nil_append]
                        refine hK10 _ _ ?_
                        refine AW.lastl false [9] (by rfl) fun K hK => ?_ -- region 7
                        simp only [go_sem, Nat.reduceAdd, Nat.reduceEqDiff, Nat.reduceLeDiff, true_and, ProgM.enc, NodeM.enc, EqM.enc, VarM.enc, enc_one, enc_len, enc_get43, enc_get47, eqc_get81, eqc_get128, List.length_map, List.length_cons, List.all_cons, one_row, len_row, tmod7]
                        refine hK _ _ fun env' hw => ?_
                        simp only [setL_cons, setL_nil, List.set_cons_zero, List.set_cons_succ] at hw
                        refine ⟨i + 1, by omega, by omega, ?_, by first | rfl | (simp [List.take_append, List.take_of_length_le]; done) | (simp [List.take_append, List.take_of_length_le]; repeat' constructor)⟩
                        refine hw.trans ?_
                        simp [Wk, wrap_succ hi1 hl0]
                        try omega
                    · skip
                      refine AW.lastch mixed [σ ++ [.dead, .cells [.sl 1 [str ⟨#[98]⟩], i64 0, i64 0, i64 1, str ⟨#[]⟩, .slo true 5 ((l.take i).map E.enc) (σ.length + 4)], .cells [.val (.string (⟨#[102]⟩)), .nilsl, .sl 2 [.agg [str ⟨#[98]⟩, i64 0]], .nilsl, .osl (σ.length + 1) 0 1 6], .cells [.nilsl], .cap i 5, .cells [.val (.string (vS i)), .val (.int .i64 0)], .cells [.val (.bool b23)]], σ ++ [.dead, .cells [.sl 1 [str ⟨#[98]⟩], i64 0, i64 0, i64 1, str ⟨#[]⟩, .slo true 5 ((l.take i).map E.enc) (σ.length + 4)], .cells [.val (.string ⟨#[102]⟩), .nilsl, .sl 2 [.agg [str ⟨#[98]⟩, i64 0]], .nilsl, .osl (σ.length + 1) 0 1 6], .cells [.nilsl], .cap (i + 1) 5, .cells [.val (.string (vS i)), i64 0], .cells [.val (.bool b23)]], σ ++ [.dead, .cells [.sl 1 [str ⟨#[98]⟩], i64 0, i64 0, i64 1, str ⟨#[]⟩, .slo true 5 ((l.take (i + 1)).map E.enc) (σ.length + 4)], .cells [.val (.string ⟨#[102]⟩), .nilsl, .sl 2 [.agg [str ⟨#[98]⟩, i64 0]], .nilsl, .osl (σ.length + 1) 0 1 6], .cells [.nilsl], .cap (i + 1) 5, .cells [.val (.string (vS i)), i64 0], .cells [.val (.bool b23)]]] [(0, 1, true), (0, 1, true), (0, 0, true), (0, 0, true), (0, 0, true), (0, 0, true), (0, 0, true), (0, 0, true), (0, 0, true), (0, 0, true), (0, 0, false), (1, 1, true), (1, 1, true), (1, 1, true), (0, 0, false)] [] (by kernel_rfl) (by rfl) (by kernel_rfl) (by rfl) fun K hK => ?_ -- region 26
                      simp only [go_sem, Nat.reduceAdd, Nat.reduceEqDiff, Nat.reduceLeDiff, true_and, ProgM.enc, NodeM.enc, EqM.enc, VarM.enc, enc_one, enc_len, enc_get43, enc_get47, eqc_get81, eqc_get128, List.length_map, List.length_cons, List.all_cons, one_row, len_row, ba_beqL, bin_rem (show (7 : Int) ≠ 0 by decide), bin_rem (show (1006 : Int) ≠ 0 by decide), tmod7, tmod1006, hw, hm, hat, hap, row1_41 _ (.agg [i64 0, i64 0, i64 1, str ⟨#[]⟩, .nilsl]) rfl rfl, htk, List.append_assoc, List.cons_append, List.nil_append]
                      refine xE.of (by first | rfl | (simp; done) | (simp; repeat' constructor)) ?_
                      simp only [go_sem, Nat.reduceAdd, Nat.reduceEqDiff, Nat.reduceLeDiff, true_and, ProgM.enc, NodeM.enc, EqM.enc, VarM.enc, enc_one, enc_len, enc_get43, enc_get47, eqc_get81, eqc_get128, List.length_map, List.length_cons, List.all_cons, one_row, len_row, ba_beqL, bin_rem (show (7 : Int) ≠ 0 by decide), bin_rem (show (1006 : Int) ≠ 0 by decide), tmod7, tmod1006, hw, hm, hat, hap, row1_41 _ (.agg [i64 0, i64 0, i64 1, str ⟨#[]⟩, .nilsl]) rfl rfl, htk, List.append_assoc, List.cons_append, List.nil_append]
                      refine xE.of (by first | rfl | (simp; done) | (simp; repeat' constructor)) ?_
                      simp only [go_sem, Nat.reduceAdd, Nat.reduceEqDiff, Nat.reduceLeDiff, true_and, ProgM.enc, NodeM.enc, EqM.enc, VarM.enc, enc_one, enc_len, enc_get43, enc_get47, eqc_get81, eqc_get128, List.length_map, List.length_cons, List.all_cons, one_row, len_row, ba_beqL, bin_rem (show (7 : Int) ≠ 0 by decide), bin_rem (show (1006 : Int) ≠ 0 by decide), tmod7, tmod1006, hw, hm, hat, hap, row1_41 _ (.agg [i64 0, i64 0, i64 1, str ⟨#[]⟩, .nilsl]) rfl rfl, htk, List.append_assoc, List.cons_append, List.nil_append]
                      refine hK _ fun env' hw => ?_
                      simp only [setL_cons, setL_nil, List.set_cons_zero, List.set_cons_succ, upd_none, upd_at] at hw
                      refine hK10 _ _ (AW.weaken hw ?_); clear hw; try clear hK10 K10
                      refine AW.lastl false [9] (by rfl) fun K hK => ?_ -- region 7
                      simp only [go_sem, Nat.reduceAdd, Nat.reduceEqDiff, Nat.reduceLeDiff, true_and, ProgM.enc, NodeM.enc, EqM.enc, VarM.enc, enc_one, enc_len, enc_get43, enc_get47, eqc_get81, eqc_get128, List.length_map, List.length_cons, List.all_cons, one_row, len_row, ba_beqL, bin_rem (show (7 : Int) ≠ 0 by decide), bin_rem (show (1006 : Int) ≠ 0 by decide), tmod7, tmod1006, hw, hm]
                      refine hK _ _ fun env' hw => ?_
                      simp only [setL_cons, setL_nil, List.set_cons_zero, List.set_cons_succ] at hw
                      refine ⟨i + 1, by omega, by omega, ?_, by first | rfl | (simp [List.take_append, List.take_of_length_le]; done) | (simp [List.take_append, List.take_of_length_le]; repeat' constructor)⟩
                      refine hw.trans ?_
                      simp [Wk, wrap_succ hi1 hl0]
                      try omega
                  · skip
                    exact absurd hc99 (by decide)
    · skip
      have hi1 : i = m := by
        have : ¬ i < m := by simpa using hc26
        omega
      refine AW.exit ?_
      refine hK6 _ _ ?_; try clear hK6 K6
      refine AW.seq_k fun K21 hK21 => ?_
      rw [show l.take i = l by rw [hi1, ← hll, List.take_length]]
      refine AW.regl false [133] (by rfl) fun K22 hK22 => ?_ -- region 27
      simp only [go_sem, Nat.reduceAdd, Nat.reduceEqDiff, Nat.reduceLeDiff, true_and, ProgM.enc, NodeM.enc, EqM.enc, VarM.enc, enc_one, enc_len, enc_get43, enc_get47, eqc_get81, eqc_get128, List.length_map, List.length_cons, List.all_cons, one_row, len_row, ba_beqL, bin_rem (show (7 : Int) ≠ 0 by decide), bin_rem (show (1006 : Int) ≠ 0 by decide), tmod7, tmod1006, hw, hm]
      refine hK22 _ _ ?_; try clear hK22 K22
      conv => enter [5]; simp only [setL_cons, setL_nil, List.set_cons_zero, List.set_cons_succ]
      refine AW.cond rfl (fun hc133 => ?_) (fun hc133 => ?_)
      · skip
        refine AW.lastch mixed [σ ++ [.dead, .cells [.sl 1 [str ⟨#[98]⟩], i64 0, i64 0, i64 1, str ⟨#[]⟩, .slo true 5 (l.map E.enc) (σ.length + 4)], .cells [.val (.string (⟨#[102]⟩)), .nilsl, .sl 2 [.agg [str ⟨#[98]⟩, i64 0]], .nilsl, .osl (σ.length + 1) 0 1 6], .cells [.nilsl], .cap i 5], σ ++ [.dead, .cells [.sl 1 [str ⟨#[98]⟩], i64 6, i64 0, i64 1, str ⟨#[]⟩, .slo true 5 (l.map E.enc) (σ.length + 4)], .cells [.val (.string ⟨#[102]⟩), .nilsl, .sl 2 [.agg [str ⟨#[98]⟩, i64 0]], .nilsl, .osl (σ.length + 1) 0 1 6], .cells [.nilsl], .cap i 5], σ ++ [.dead, .cells [.sl 1 [str ⟨#[98]⟩], i64 6, i64 0, i64 0, str ⟨#[]⟩, .slo true 5 (l.map E.enc) (σ.length + 4)], .cells [.val (.string ⟨#[102]⟩), .nilsl, .sl 2 [.agg [str ⟨#[98]⟩, i64 0]], .nilsl, .osl (σ.length + 1) 0 1 6], .cells [.nilsl], .cap i 5], σ ++ [.dead, .cells [.sl 1 [str ⟨#[98]⟩], i64 6, i64 0, i64 0, str ⟨#[103]⟩, .slo true 5 (l.map E.enc) (σ.length + 4)], .cells [.val (.string ⟨#[102]⟩), .nilsl, .sl 2 [.agg [str ⟨#[98]⟩, i64 0]], .nilsl, .osl (σ.length + 1) 0 1 6], .cells [.nilsl], .cap i 5]] [(0, 0, true), (0, 0, true), (0, 1, true), (0, 1, true), (0, 2, true), (0, 2, true), (0, 0, true), (0, 0, true), (0, 0, true), (0, 0, false), (1, 1, true), (1, 1, true), (1, 1, true), (0, 0, false), (2, 2, true), (2, 2, true), (2, 2, true), (0, 0, false)] [] (by kernel_rfl) (by rfl) (by kernel_rfl) (by rfl) fun K hK => ?_ -- region 28
        simp only [go_sem, Nat.reduceAdd, Nat.reduceEqDiff, Nat.reduceLeDiff, true_and, ProgM.enc, NodeM.enc, EqM.enc, VarM.enc, enc_one, enc_len, enc_get43, enc_get47, eqc_get81, eqc_get128, List.length_map, List.length_cons, List.all_cons, one_row, len_row, ba_beqL, bin_rem (show (7 : Int) ≠ 0 by decide), bin_rem (show (1006 : Int) ≠ 0 by decide), tmod7, tmod1006, hw, hm, hat0, List.append_assoc, List.cons_append, List.nil_append]
        refine xE.of (by first | rfl | (simp; done) | (simp; repeat' constructor)) ?_
        simp only [go_sem, Nat.reduceAdd, Nat.reduceEqDiff, Nat.reduceLeDiff, true_and, ProgM.enc, NodeM.enc, EqM.enc, VarM.enc, enc_one, enc_len, enc_get43, enc_get47, eqc_get81, eqc_get128, List.length_map, List.length_cons, List.all_cons, one_row, len_row, ba_beqL, bin_rem (show (7 : Int) ≠ 0 by decide), bin_rem (show (1006 : Int) ≠ 0 by decide), tmod7, tmod1006, hw, hm, hat0, List.append_assoc, List.cons_append, List.nil_append]
        refine xE.of (by first | rfl | (simp; done) | (simp; repeat' constructor)) ?_
        simp only [go_sem, Nat.reduceAdd, Nat.reduceEqDiff, Nat.reduceLeDiff, true_and, ProgM.enc, NodeM.enc, EqM.enc, VarM.enc, enc_one, enc_len, enc_get43, enc_get47, eqc_get81, eqc_get128, List.length_map, List.length_cons, List.all_cons, one_row, len_row, ba_beqL, bin_rem (show (7 : Int) ≠ 0 by decide), bin_rem (show (1006 : Int) ≠ 0 by decide), tmod7, tmod1006, hw, hm, hat0, List.append_assoc, List.cons_append, List.nil_append]
        refine xE.of (by first | rfl | (simp; done) | (simp; repeat' constructor)) ?_
        simp only [go_sem, Nat.reduceAdd, Nat.reduceEqDiff, Nat.reduceLeDiff, true_and, ProgM.enc, NodeM.enc, EqM.enc, VarM.enc, enc_one, enc_len, enc_get43, enc_get47, eqc_get81, eqc_get128, List.length_map, List.length_cons, List.all_cons, one_row, len_row, ba_beqL, bin_rem (show (7 : Int) ≠ 0 by decide), bin_rem (show (1006 : Int) ≠ 0 by decide), tmod7, tmod1006, hw, hm, hat0, List.append_assoc, List.cons_append, List.nil_append]
        refine hK _ fun env' hw => ?_
        simp only [setL_cons, setL_nil, List.set_cons_zero, List.set_cons_succ, upd_none, upd_at] at hw
        refine hK21 _ _ (AW.weaken hw ?_); clear hw; try clear hK21 K21
        refine AW.seq_k fun K23 hK23 => ?_
        show AW _ _ _ _ _ (σ ++ [.dead, .cells [.sl 1 [str ⟨#[98]⟩], i64 6, i64 0, i64 0, str ⟨#[103]⟩, .slo true 5 (l.map E.enc) (σ.length + 4)], .cells [.val (.string ⟨#[102]⟩), .nilsl, .sl 2 [.agg [str ⟨#[98]⟩, i64 0]], .nilsl, .osl (σ.length + 1) 0 1 6], .cells [.nilsl], .cap i 5]) _
        refine AW.still (σ.length + 1) ((app_get σ _ 1).trans rfl) ?_
        simp only [app_set, List.set_cons_zero, List.set_cons_succ, List.map_cons, List.map_nil, still_slo, still_val, still_row, still_sl, still_nil]
        refine AW.freeze σ.length (σ.length + 1) 1 6 [.agg [.sl 1 [str ⟨#[98]⟩], i64 6, i64 0, i64 0, str ⟨#[103]⟩, rowAV 5 true (l.map E.enc)]] ((app_get σ _ 1).trans rfl) (by simp only [List.flatMap_cons, List.flatMap_nil, AV.cells, List.append_nil]) rfl (fun e he => by rw [List.mem_singleton] at he; rw [he]; rfl) ?_
        rw [app_set, subFrom_app]
        conv => enter [5]; simp only [subL, AV.sub]
        conv => enter [6]; simp only [List.set_cons_zero, List.set_cons_succ, List.map_cons, List.map_nil, AO.sub, subL, AV.sub, eq_self, and_self, if_true]
        refine AW.regl false [151] (by rfl) fun K24 hK24 => ?_ -- region 29
        simp only [go_sem, Nat.reduceAdd, Nat.reduceEqDiff, Nat.reduceLeDiff, true_and, ProgM.enc, NodeM.enc, EqM.enc, VarM.enc, enc_one, enc_len, enc_get43, enc_get47, eqc_get81, eqc_get128, List.length_map, List.length_cons, List.all_cons, one_row, len_row, ba_beqL, bin_rem (show (7 : Int) ≠ 0 by decide), bin_rem (show (1006 : Int) ≠ 0 by decide), tmod7, tmod1006, hw, hm]
        refine hK24 _ _ ?_; try clear hK24 K24
        conv => enter [5]; simp only [setL_cons, setL_nil, List.set_cons_zero, List.set_cons_succ]
        refine AW.cond rfl (fun hc151 => ?_) (fun hc151 => ?_)
        · skip
          refine AW.lastl false [] (by rfl) fun K hK => ?_ -- region 30
          simp only [go_sem, Nat.reduceAdd, Nat.reduceEqDiff, Nat.reduceLeDiff, true_and, ProgM.enc, NodeM.enc, EqM.enc, VarM.enc, enc_one, enc_len, enc_get43, enc_get47, eqc_get81, eqc_get128, List.length_map, List.length_cons, List.all_cons, one_row, len_row, ba_beqL, bin_rem (show (7 : Int) ≠ 0 by decide), bin_rem (show (1006 : Int) ≠ 0 by decide), tmod7, tmod1006, hw, hm, row1_85 _ (.agg [str ⟨#[102]⟩, .nilsl, .sl 2 [.agg [str ⟨#[98]⟩, i64 0]], .nilsl, .sl 6 [.agg [.sl 1 [str ⟨#[98]⟩], i64 6, i64 0, i64 0, str ⟨#[103]⟩, rowAV 5 true (l.map E.enc)]]]) rfl (by simp only [AV.cells, List.all_cons, List.all_nil, one_row, one_str, one_sl, one_nilsl, Bool.and_true])]
          refine hK _ _ fun env' hw => ?_
          simp only [setL_cons, setL_nil, List.set_cons_zero, List.set_cons_succ] at hw
          refine hK23 _ _ (AW.weaken hw ?_); clear hw; try clear hK23 K23
          rw [hpc]
          refine AW.regl false [11] (by rfl) fun K25 hK25 => ?_ -- region 31
          simp only [go_sem, Nat.reduceAdd, Nat.reduceEqDiff, Nat.reduceLeDiff, true_and, ProgM.enc, NodeM.enc, EqM.enc, VarM.enc, enc_one, enc_len, enc_get43, enc_get47, eqc_get81, eqc_get128, List.length_map, List.length_cons, List.all_cons, one_row, len_row, ba_beqL, bin_rem (show (7 : Int) ≠ 0 by decide), bin_rem (show (1006 : Int) ≠ 0 by decide), tmod7, tmod1006, hw, hm]
          refine sC.of en33 ((oprog_calls p hpk).on _).here (by rfl) ?_
          simp only [go_sem, Nat.reduceAdd, Nat.reduceEqDiff, Nat.reduceLeDiff, true_and, ProgM.enc, NodeM.enc, EqM.enc, VarM.enc, enc_one, enc_len, enc_get43, enc_get47, eqc_get81, eqc_get128, List.length_map, List.length_cons, List.all_cons, one_row, len_row, ba_beqL, bin_rem (show (7 : Int) ≠ 0 by decide), bin_rem (show (1006 : Int) ≠ 0 by decide), tmod7, tmod1006, hw, hm]
          refine hK25 _ _ ?_; try clear hK25 K25
          conv => enter [5]; simp only [setL_cons, setL_nil, List.set_cons_zero, List.set_cons_succ, upd_none, upd_at]
          refine AW.regtdf mixed false 4 (.val (.bool (true))) (by kernel_rfl) (by rfl) ?_ ?_ -- region 32
          · skip
            cases h166 : (((p.nodes.length : Int) == 0))
            · skip
              simp only [go_sem, Nat.reduceAdd, Nat.reduceEqDiff, Nat.reduceLeDiff, true_and, ProgM.enc, NodeM.enc, EqM.enc, VarM.enc, enc_one, enc_len, enc_get43, enc_get47, eqc_get81, eqc_get128, List.length_map, List.length_cons, List.all_cons, one_row, len_row, ba_beqL, bin_rem (show (7 : Int) ≠ 0 by decide), bin_rem (show (1006 : Int) ≠ 0 by decide), tmod7, tmod1006, hw, hm, hya, hza, bin_beql tyBool4, beq_self_eq_true, h166]
              refine qC.of en34 (hR34.on _).here (by rfl) ?_
              simp only [go_sem, Nat.reduceAdd, Nat.reduceEqDiff, Nat.reduceLeDiff, true_and, ProgM.enc, NodeM.enc, EqM.enc, VarM.enc, enc_one, enc_len, enc_get43, enc_get47, eqc_get81, eqc_get128, List.length_map, List.length_cons, List.all_cons, one_row, len_row, ba_beqL, bin_rem (show (7 : Int) ≠ 0 by decide), bin_rem (show (1006 : Int) ≠ 0 by decide), tmod7, tmod1006, hw, hm, hya, hza, bin_beql tyBool4, beq_self_eq_true, h166]
              refine qC.of en35 ((rpright_calls p hpk).on _).here (by rfl) ?_
              simp only [go_sem, Nat.reduceAdd, Nat.reduceEqDiff, Nat.reduceLeDiff, true_and, ProgM.enc, NodeM.enc, EqM.enc, VarM.enc, enc_one, enc_len, enc_get43, enc_get47, eqc_get81, eqc_get128, List.length_map, List.length_cons, List.all_cons, one_row, len_row, ba_beqL, bin_rem (show (7 : Int) ≠ 0 by decide), bin_rem (show (1006 : Int) ≠ 0 by decide), tmod7, tmod1006, hw, hm, hya, hza, bin_beql tyBool4, beq_self_eq_true, h166]
              refine qC.of en36 (hR36.on _).here (by rfl) ?_
              simp only [go_sem, Nat.reduceAdd, Nat.reduceEqDiff, Nat.reduceLeDiff, true_and, ProgM.enc, NodeM.enc, EqM.enc, VarM.enc, enc_one, enc_len, enc_get43, enc_get47, eqc_get81, eqc_get128, List.length_map, List.length_cons, List.all_cons, one_row, len_row, ba_beqL, bin_rem (show (7 : Int) ≠ 0 by decide), bin_rem (show (1006 : Int) ≠ 0 by decide), tmod7, tmod1006, hw, hm, hya, hza, bin_beql tyBool4, beq_self_eq_true, h166]
              refine qC.of en37 ((rnright_calls nd hnd).on _).here (by rfl) ?_
              simp only [go_sem, Nat.reduceAdd, Nat.reduceEqDiff, Nat.reduceLeDiff, true_and, ProgM.enc, NodeM.enc, EqM.enc, VarM.enc, enc_one, enc_len, enc_get43, enc_get47, eqc_get81, eqc_get128, List.length_map, List.length_cons, List.all_cons, one_row, len_row, ba_beqL, bin_rem (show (7 : Int) ≠ 0 by decide), bin_rem (show (1006 : Int) ≠ 0 by decide), tmod7, tmod1006, hw, hm, hya, hza, bin_beql tyBool4, beq_self_eq_true, h166]
              refine qC.of en23 ((aawake_calls hΓ).on _).here (by rfl) ?_
              simp only [go_sem, Nat.reduceAdd, Nat.reduceEqDiff, Nat.reduceLeDiff, true_and, ProgM.enc, NodeM.enc, EqM.enc, VarM.enc, enc_one, enc_len, enc_get43, enc_get47, eqc_get81, eqc_get128, List.length_map, List.length_cons, List.all_cons, one_row, len_row, ba_beqL, bin_rem (show (7 : Int) ≠ 0 by decide), bin_rem (show (1006 : Int) ≠ 0 by decide), tmod7, tmod1006, hw, hm, hya, hza, bin_beql tyBool4, beq_self_eq_true, h166]
              try simp [upd_at, h166, ProgM.enc, NodeM.enc, EqM.enc, VarM.enc, enc_one, enc_len, enc_get43, enc_get47, eqc_get81, eqc_get128, List.length_map, List.length_cons, List.all_cons, one_row, len_row, ba_beqL, bin_rem (show (7 : Int) ≠ 0 by decide), bin_rem (show (1006 : Int) ≠ 0 by decide), tmod7, tmod1006, hw, hm, hya, hza, bin_beql tyBool4, beq_self_eq_true]
            · skip
              simp only [go_sem, Nat.reduceAdd, Nat.reduceEqDiff, Nat.reduceLeDiff, true_and, ProgM.enc, NodeM.enc, EqM.enc, VarM.enc, enc_one, enc_len, enc_get43, enc_get47, eqc_get81, eqc_get128, List.length_map, List.length_cons, List.all_cons, one_row, len_row, ba_beqL, bin_rem (show (7 : Int) ≠ 0 by decide), bin_rem (show (1006 : Int) ≠ 0 by decide), tmod7, tmod1006, hw, hm, hya, hza, bin_beql tyBool4, beq_self_eq_true, h166]
              refine qC.of en34 (hR34.on _).here (by rfl) ?_
              simp only [go_sem, Nat.reduceAdd, Nat.reduceEqDiff, Nat.reduceLeDiff, true_and, ProgM.enc, NodeM.enc, EqM.enc, VarM.enc, enc_one, enc_len, enc_get43, enc_get47, eqc_get81, eqc_get128, List.length_map, List.length_cons, List.all_cons, one_row, len_row, ba_beqL, bin_rem (show (7 : Int) ≠ 0 by decide), bin_rem (show (1006 : Int) ≠ 0 by decide), tmod7, tmod1006, hw, hm, hya, hza, bin_beql tyBool4, beq_self_eq_true, h166]
              refine qC.of en35 ((rpright_calls p hpk).on _).here (by rfl) ?_
              simp only [go_sem, Nat.reduceAdd, Nat.reduceEqDiff, Nat.reduceLeDiff, true_and, ProgM.enc, NodeM.enc, EqM.enc, VarM.enc, enc_one, enc_len, enc_get43, enc_get47, eqc_get81, eqc_get128, List.length_map, List.length_cons, List.all_cons, one_row, len_row, ba_beqL, bin_rem (show (7 : Int) ≠ 0 by decide), bin_rem (show (1006 : Int) ≠ 0 by decide), tmod7, tmod1006, hw, hm, hya, hza, bin_beql tyBool4, beq_self_eq_true, h166]
              refine qC.of en23 ((aawake_calls hΓ).on _).here (by rfl) ?_
              simp only [go_sem, Nat.reduceAdd, Nat.reduceEqDiff, Nat.reduceLeDiff, true_and, ProgM.enc, NodeM.enc, EqM.enc, VarM.enc, enc_one, enc_len, enc_get43, enc_get47, eqc_get81, eqc_get128, List.length_map, List.length_cons, List.all_cons, one_row, len_row, ba_beqL, bin_rem (show (7 : Int) ≠ 0 by decide), bin_rem (show (1006 : Int) ≠ 0 by decide), tmod7, tmod1006, hw, hm, hya, hza, bin_beql tyBool4, beq_self_eq_true, h166]
              try simp [upd_at, h166, ProgM.enc, NodeM.enc, EqM.enc, VarM.enc, enc_one, enc_len, enc_get43, enc_get47, eqc_get81, eqc_get128, List.length_map, List.length_cons, List.all_cons, one_row, len_row, ba_beqL, bin_rem (show (7 : Int) ≠ 0 by decide), bin_rem (show (1006 : Int) ≠ 0 by decide), tmod7, tmod1006, hw, hm, hya, hza, bin_beql tyBool4, beq_self_eq_true]
          conv => enter [5]; simp only [List.set_cons_zero, List.set_cons_succ]
          refine AW.ret ⟨.inr rfl, _, rfl, by simp, ?_⟩ -- return 1
          exact .keep rfl
        · skip
          exact absurd hc151 (by decide)
      · skip
        exact absurd hc133 (by decide)

theorem astLists_calls (hΓ : Words Γ) (n x : Nat) (hn : n < 65536) (hx : x < 256) : APure prog Γ 6 [.val (.int .u16 (n : Nat)), .val (.int .u8 (x : Nat))] (bool true) := by
  have h : x % 7 = 0 ∨ x % 7 = 1 ∨ x % 7 = 2 ∨ x % 7 = 3 ∨ x % 7 = 4 ∨ x % 7 = 5 ∨ x % 7 = 6 := by omega
  rcases h with h | h | h | h | h | h | h
  · exact lists0 hΓ n x hn hx h
  · exact lists1 hΓ n x hn hx h
  · exact lists2 hΓ n x hn hx h
  · exact lists3 hΓ n x hn hx h
  · exact lists4 hΓ n x hn hx h
  · exact lists5 hΓ n x hn hx h
  · exact lists6 hΓ n x hn hx h
end A
end Go.Proofs.Tryd

