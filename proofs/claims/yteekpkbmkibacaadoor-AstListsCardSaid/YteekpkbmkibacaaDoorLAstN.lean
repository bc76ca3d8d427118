import Derived.Test.YteekpkbmkibacaaDoorLAstM
import Derived.Test.YteekpkbmkibacaaDoorLEvDraw4
import Derived.Test.YteekpkbmkibacaaDoorLEvCut
/-! Names. -/
namespace Go.Proofs.Tryd
set_option linter.unusedSimpArgs false
set_option linter.unusedVariables false
open Go Go.Proofs.Ev
namespace A
variable {Γ : List (Nat × List AV)}
def words : List ByteArray := [⟨#[97, 110, 100]⟩, ⟨#[98, 111, 111, 108]⟩, ⟨#[99, 111, 110, 115, 116]⟩, ⟨#[100, 105, 118]⟩, ⟨#[101, 108, 115, 101]⟩, ⟨#[102, 97, 108, 115, 101]⟩, ⟨#[105, 102]⟩, ⟨#[105, 110, 116]⟩, ⟨#[108, 101, 116]⟩, ⟨#[109, 111, 100]⟩, ⟨#[110, 111, 100, 101]⟩, ⟨#[110, 111, 116]⟩, ⟨#[111, 114]⟩, ⟨#[112, 114, 101]⟩, ⟨#[114, 101, 116, 117, 114, 110, 115]⟩, ⟨#[116, 101, 108]⟩, ⟨#[116, 104, 101, 110]⟩, ⟨#[116, 114, 117, 101]⟩, ⟨#[118, 97, 114]⟩, ⟨#[120, 111, 114]⟩]
def wordM (s : ByteArray) : Bool := (findS words s).isSome
/-- The table of words stands there. -/
def Words (Γ : List (Nat × List AV)) : Prop := ∃ ks : List ByteArray, opnd Γ [] (.global 0) = .er [.mapf (ks.map Value.string) (List.replicate ks.length (bool true))] ∧ ∀ s, (findS ks s).isSome = wordM s
def letter (c : UInt8) : Bool := (((c.toNat : Int) == 95) || (decide ((c.toNat : Int) ≥ 97) && decide ((c.toNat : Int) ≤ 122))) || (decide ((c.toNat : Int) ≥ 65) && decide ((c.toNat : Int) ≤ 90))
def digit (c : UInt8) : Bool := decide ((c.toNat : Int) ≥ 48) && decide ((c.toNat : Int) ≤ 57)
def okFrom : Nat → List UInt8 → Bool
  | _, [] => true
  | i, c :: l => (letter c || (decide (0 < i) && digit c)) && okFrom (i + 1) l
def nameM (s : ByteArray) : Bool := (!(decide (s = ⟨#[]⟩) || decide ((s.size : Int) > 60) || wordM s)) && okFrom 0 s.data.toList
theorem okFrom_drop {l : List UInt8} {i : Nat} (h : i < l.length) : okFrom i (l.drop i) = ((letter l[i] || (decide (0 < i) && digit l[i])) && okFrom (i + 1) (l.drop (i + 1))) := by
  rw [List.drop_eq_getElem_cons h]
  rfl
theorem ba_len (s : ByteArray) : s.data.toList.length = s.size := rfl
theorem ba_get (s : ByteArray) {i : Nat} (h : i < s.size) : s[i]'h = s.data.toList[i]'h := rfl
theorem lk_words (ks : List ByteArray) (T : TypeId) {et : TypeId} (hT : prog.underlying T = some (.map 9 et)) (hz : aZero prog et = some (bool false)) (σ : Sto) (s : ByteArray) : aLookup prog σ T false (.mapf (ks.map Value.string) (List.replicate ks.length (bool true))) (str s) = some (bool (findS ks s).isSome) := by
  have hp : mapParts σ (.mapf (ks.map Value.string) (List.replicate ks.length (bool true))) = some (ks.map Value.string, List.replicate ks.length (bool true)) := rfl
  have hk : prog.underlying 9 = some .string := by kernel_rfl
  simp only [aLookup, hT, hp, hk, plainK, if_true, aFindK_str, hz]
  cases h : findS ks s with
  | none => rfl
  | some i =>
    have hi := (findS_lt h).1
    simp only [List.getElem?_replicate, Option.map, Bool.false_eq_true, if_false, Option.isSome, Nat.add_zero]
    rw [if_pos hi]
theorem parts_of {sz : Nat} {parts : List (Nat × AV)} (h : (parts.all fun p => (p.2.cells.length == sz) && p.2.cells.all AV.one) = true) : ∀ p ∈ parts, p.2.cells.length = sz ∧ p.2.cells.all AV.one = true := fun p hp => by
  have := List.all_eq_true.1 h p hp
  simpa using this
theorem row20 (σ : Sto) : aRow prog false σ 79 20 [(0, str ⟨#[97, 110, 100]⟩), (1, str ⟨#[98, 111, 111, 108]⟩), (2, str ⟨#[99, 111, 110, 115, 116]⟩), (3, str ⟨#[100, 105, 118]⟩), (4, str ⟨#[101, 108, 115, 101]⟩), (5, str ⟨#[102, 97, 108, 115, 101]⟩), (6, str ⟨#[105, 102]⟩), (7, str ⟨#[105, 110, 116]⟩), (8, str ⟨#[108, 101, 116]⟩), (9, str ⟨#[109, 111, 100]⟩), (10, str ⟨#[110, 111, 100, 101]⟩), (11, str ⟨#[110, 111, 116]⟩), (12, str ⟨#[111, 114]⟩), (13, str ⟨#[112, 114, 101]⟩), (14, str ⟨#[114, 101, 116, 117, 114, 110, 115]⟩), (15, str ⟨#[116, 101, 108]⟩), (16, str ⟨#[116, 104, 101, 110]⟩), (17, str ⟨#[116, 114, 117, 101]⟩), (18, str ⟨#[118, 97, 114]⟩), (19, str ⟨#[120, 111, 114]⟩)] = some (.sl 1 (words.map str), σ) := aRow_sl (by kernel_rfl) (by decide) (row79 (by decide) (by decide) rfl (parts_of rfl)) σ
theorem findS_mem : ∀ {l : List ByteArray} {i : Nat} (h : i < l.length), (findS l l[i]).isSome = true
  | a :: l, 0, _ => by simp [findS]
  | a :: l, i + 1, h => by
    have := findS_mem (l := l) (i := i) (by simpa using h)
    simp only [findS, List.getElem_cons_succ]
    split
    · rfl
    · simpa using this
theorem findS_take {l : List ByteArray} {s : ByteArray} {i : Nat} (h : i < l.length) (h1 : findS (l.take i) s = none) (h2 : ¬ s = l[i]) : findS (l.take (i + 1)) s = none := by
  induction l generalizing i with
  | nil => simp at h
  | cons a l ih =>
    cases i with
    | zero =>
      simp only [List.take_succ_cons, List.take_zero, findS, List.getElem_cons_zero] at h2 ⊢
      rw [if_neg h2]
      rfl
    | succ i =>
      simp only [List.take_succ_cons, findS, List.getElem_cons_succ] at h1 h2 ⊢
      split at h1
      · cases h1
      · rename_i hne
        rw [if_neg hne, ih (by simpa using h) (by simpa using h1) h2]
        rfl
set_option maxRecDepth 100000 in
theorem letter_calls (c : UInt8) : APure prog Γ 74 [.val (.int .u8 ((c.toNat : Nat) : Int))] (.val (.bool (letter c))) := by
  refine APure.of func74 rfl fun σ => ?_
  simp only [ntmps74, List.length_cons, List.length_nil, Nat.reduceAdd, Nat.reduceSub, List.replicate_succ, List.replicate_zero, List.cons_append, List.nil_append]
  refine AW.regl false [2] (by rfl) fun K1 hK1 => ?_ -- region 0
  simp only [go_sem, Nat.reduceAdd, Nat.reduceEqDiff, Nat.reduceLeDiff, true_and]
  refine hK1 _ _ ?_; try clear hK1 K1
  conv => enter [5]; simp only [setL_cons, setL_nil, List.set_cons_zero, List.set_cons_succ]
  refine AW.regtf false 2 (.val (.bool (((((c.toNat : Nat) : Int) == 95) || ((decide (((c.toNat : Nat) : Int) ≥ 97)) && (decide (((c.toNat : Nat) : Int) ≤ 122)))) || ((decide (((c.toNat : Nat) : Int) ≥ 65)) && (decide (((c.toNat : Nat) : Int) ≤ 90)))))) (by rfl) ?_ ?_ -- region 1
  · skip
    cases h4 : ((((c.toNat : Nat) : Int) == 95))
    · skip
      cases h7 : ((decide (((c.toNat : Nat) : Int) ≥ 97)))
      · skip
        cases h15 : ((decide (((c.toNat : Nat) : Int) ≥ 65)))
        · skip
          simp only [go_sem, Nat.reduceAdd, Nat.reduceEqDiff, Nat.reduceLeDiff, true_and, h4, h7, h15]
          try simp [upd_at, h4, h7, h15]
        · skip
          simp only [go_sem, Nat.reduceAdd, Nat.reduceEqDiff, Nat.reduceLeDiff, true_and, h4, h7, h15]
          try simp [upd_at, h4, h7, h15]
      · skip
        cases h10 : ((decide (((c.toNat : Nat) : Int) ≤ 122)))
        · skip
          cases h15 : ((decide (((c.toNat : Nat) : Int) ≥ 65)))
          · skip
            simp only [go_sem, Nat.reduceAdd, Nat.reduceEqDiff, Nat.reduceLeDiff, true_and, h4, h7, h10, h15]
            try simp [upd_at, h4, h7, h10, h15]
          · skip
            simp only [go_sem, Nat.reduceAdd, Nat.reduceEqDiff, Nat.reduceLeDiff, true_and, h4, h7, h10, h15]
            try simp [upd_at, h4, h7, h10, h15]
        · skip
          simp only [go_sem, Nat.reduceAdd, Nat.reduceEqDiff, Nat.reduceLeDiff, true_and, h4, h7, h10]
          try simp [upd_at, h4, h7, h10]
    · skip
      simp only [go_sem, Nat.reduceAdd, Nat.reduceEqDiff, Nat.reduceLeDiff, true_and, h4]
      try simp [upd_at, h4]
  conv => enter [5]; simp only [List.set_cons_zero, List.set_cons_succ]
  refine AW.ret ⟨.inr rfl, _, rfl, by simp, ?_⟩ -- return 1
  refine frzB ?_
  rfl

set_option maxRecDepth 100000 in
theorem digit_calls (c : UInt8) : APure prog Γ 75 [.val (.int .u8 ((c.toNat : Nat) : Int))] (.val (.bool (digit c))) := by
  refine APure.of func75 rfl fun σ => ?_
  simp only [ntmps75, List.length_cons, List.length_nil, Nat.reduceAdd, Nat.reduceSub, List.replicate_succ, List.replicate_zero, List.cons_append, List.nil_append]
  refine AW.regl false [2] (by rfl) fun K1 hK1 => ?_ -- region 0
  simp only [go_sem, Nat.reduceAdd, Nat.reduceEqDiff, Nat.reduceLeDiff, true_and]
  refine hK1 _ _ ?_; try clear hK1 K1
  conv => enter [5]; simp only [setL_cons, setL_nil, List.set_cons_zero, List.set_cons_succ]
  refine AW.regtf false 2 (.val (.bool ((decide (((c.toNat : Nat) : Int) ≥ 48)) && (decide (((c.toNat : Nat) : Int) ≤ 57))))) (by rfl) ?_ ?_ -- region 1
  · skip
    cases h4 : ((decide (((c.toNat : Nat) : Int) ≥ 48)))
    · skip
      simp only [go_sem, Nat.reduceAdd, Nat.reduceEqDiff, Nat.reduceLeDiff, true_and, h4]
      try simp [upd_at, h4]
    · skip
      simp only [go_sem, Nat.reduceAdd, Nat.reduceEqDiff, Nat.reduceLeDiff, true_and, h4]
      try simp [upd_at, h4]
  conv => enter [5]; simp only [List.set_cons_zero, List.set_cons_succ]
  refine AW.ret ⟨.inr rfl, _, rfl, by simp, ?_⟩ -- return 1
  refine frzB ?_
  rfl

set_option maxRecDepth 100000 in
theorem word_calls (hΓ : Words Γ) (s : ByteArray) : APure prog Γ 45 [.val (.string s)] (.val (.bool (wordM s))) := by
  refine APure.of func45 rfl fun σ => ?_
  simp only [ntmps45, List.length_cons, List.length_nil, Nat.reduceAdd, Nat.reduceSub, List.replicate_succ, List.replicate_zero, List.cons_append, List.nil_append]
  obtain ⟨ks, hΓ, hks⟩ := hΓ
  refine AW.regl false [2] (by rfl) fun K1 hK1 => ?_ -- region 0
  simp only [go_sem, Nat.reduceAdd, Nat.reduceEqDiff, Nat.reduceLeDiff, true_and, hΓ]
  refine hK1 _ _ ?_; try clear hK1 K1
  conv => enter [5]; simp only [setL_cons, setL_nil, List.set_cons_zero, List.set_cons_succ]
  refine AW.regl false [2] (by rfl) fun K2 hK2 => ?_ -- region 1
  simp only [go_sem, Nat.reduceAdd, Nat.reduceEqDiff, Nat.reduceLeDiff, true_and, hΓ, lk_words ks 145 underlying145 zero4]
  refine hK2 _ _ ?_; try clear hK2 K2
  conv => enter [5]; simp only [setL_cons, setL_nil, List.set_cons_zero, List.set_cons_succ]
  refine AW.ret ⟨.inr rfl, _, rfl, by simp, ?_⟩ -- return 1
  rw [hks s]
  exact .keep rfl


set_option maxRecDepth 100000 in
theorem words_calls  : APure prog Γ 76 [] (rowAV 1 false (words.map str)) := by
  refine APure.of func76 rfl fun σ => ?_
  simp only [ntmps76, List.length_cons, List.length_nil, Nat.reduceAdd, Nat.reduceSub, List.replicate_succ, List.replicate_zero, List.cons_append, List.nil_append]
  refine AW.regl false [0] (by rfl) fun K1 hK1 => ?_ -- region 0
  simp only [go_sem, Nat.reduceAdd, Nat.reduceEqDiff, Nat.reduceLeDiff, true_and]
  refine hK1 _ _ ?_; try clear hK1 K1
  conv => enter [5]; simp only [setL_cons, setL_nil, List.set_cons_zero, List.set_cons_succ]
  refine AW.regl false [0] (by rfl) fun K2 hK2 => ?_ -- region 1
  simp only [go_sem, Nat.reduceAdd, Nat.reduceEqDiff, Nat.reduceLeDiff, true_and, row20]
  refine hK2 _ _ ?_; try clear hK2 K2
  conv => enter [5]; simp only [setL_cons, setL_nil, List.set_cons_zero, List.set_cons_succ]
  refine AW.ret ⟨.inr rfl, _, rfl, by simp, ?_⟩ -- return 1
  rw [row_false]
  exact .keep rfl

set_option maxRecDepth 100000 in
theorem rword_calls (s : ByteArray) : APure prog Γ 46 [.val (.string s)] (.val (.bool (wordM s))) := by
  refine APure.of func46 rfl fun σ => ?_
  simp only [ntmps46, List.length_cons, List.length_nil, Nat.reduceAdd, Nat.reduceSub, List.replicate_succ, List.replicate_zero, List.cons_append, List.nil_append]
  refine AW.regl false [2] (by rfl) fun K1 hK1 => ?_ -- region 0
  simp only [go_sem, Nat.reduceAdd, Nat.reduceEqDiff, Nat.reduceLeDiff, true_and, List.length_map, len_row, ba_beqL]
  refine hK1 _ _ ?_; try clear hK1 K1
  conv => enter [5]; simp only [setL_cons, setL_nil, List.set_cons_zero, List.set_cons_succ]
  refine AW.regl false [3] (by rfl) fun K2 hK2 => ?_ -- region 1
  simp only [go_sem, Nat.reduceAdd, Nat.reduceEqDiff, Nat.reduceLeDiff, true_and, List.length_map, len_row, ba_beqL]
  refine sC.of en76 (words_calls.on _).here (by rfl) ?_
  simp only [go_sem, Nat.reduceAdd, Nat.reduceEqDiff, Nat.reduceLeDiff, true_and, List.length_map, len_row, ba_beqL]
  refine hK2 _ _ ?_; try clear hK2 K2
  conv => enter [5]; simp only [setL_cons, setL_nil, List.set_cons_zero, List.set_cons_succ]
  refine AW.seq_k fun K3 hK3 => ?_
  refine AW.regl false [4] (by rfl) fun K4 hK4 => ?_ -- region 2
  simp only [go_sem, Nat.reduceAdd, Nat.reduceEqDiff, Nat.reduceLeDiff, true_and, List.length_map, len_row, ba_beqL]
  refine hK4 _ _ ?_; try clear hK4 K4
  conv => enter [5]; simp only [setL_cons, setL_nil, List.set_cons_zero, List.set_cons_succ]
  refine AW.block ?_
  refine AW.loop_wk (α := Nat) (fun i => [(.val (.string s)), .any, .any, (rowAV 1 false (words.map str)), (.val (.int .i64 ((i : Nat) : Int))), .any, .any, .any, .any, .any, .any, .any, .any, .any, .any, .any, .any, .any]) (fun i => σ) (fun i => words.length - i) (fun i => i ≤ words.length ∧ findS (words.take i) s = none) 0 ?_ ?_
  · exact ⟨⟨Nat.zero_le _, rfl⟩, by simp [Wk], rfl⟩
  · rintro i ⟨hi, hit⟩
    refine AW.seq_k fun K5 hK5 => ?_
    refine AW.regl false [9] (by rfl) fun K6 hK6 => ?_ -- region 3
    simp only [go_sem, Nat.reduceAdd, Nat.reduceEqDiff, Nat.reduceLeDiff, true_and, List.length_map, len_row, ba_beqL]
    refine hK6 _ _ ?_; try clear hK6 K6
    conv => enter [5]; simp only [setL_cons, setL_nil, List.set_cons_zero, List.set_cons_succ]
    refine AW.cond rfl (fun hc9 => ?_) (fun hc9 => ?_)
    · skip
      have hi1 : i < words.length := by simpa using hc9
      have hx : (words.map str)[i]? = some (.val (.string (words[i]))) := by rw [List.getElem?_map, List.getElem?_eq_getElem hi1]; rfl
      refine AW.skip ?_
      refine hK5 _ _ ?_; try clear hK5 K5
      refine AW.seq_k fun K7 hK7 => ?_
      refine AW.block ?_
      refine AW.regl false [17] (by rfl) fun K8 hK8 => ?_ -- region 5
      simp only [go_sem, Nat.reduceAdd, Nat.reduceEqDiff, Nat.reduceLeDiff, true_and, List.length_map, len_row, ba_beqL, at_row hx]
      refine hK8 _ _ ?_; try clear hK8 K8
      conv => enter [5]; simp only [setL_cons, setL_nil, List.set_cons_zero, List.set_cons_succ]
      refine AW.cond rfl (fun hc17 => ?_) (fun hc17 => ?_)
      · skip
        have heq : words[i] = s := by simpa using hc17
        refine AW.regl false [2] (by rfl) fun K9 hK9 => ?_ -- region 6
        simp only [go_sem, Nat.reduceAdd, Nat.reduceEqDiff, Nat.reduceLeDiff, true_and, List.length_map, len_row, ba_beqL]
        refine hK9 _ _ ?_; try clear hK9 K9
        conv => enter [5]; simp only [setL_cons, setL_nil, List.set_cons_zero, List.set_cons_succ]
        refine AW.ret ⟨.inr rfl, _, rfl, by simp, ?_⟩ -- return 1
        refine frzB ?_
        rw [wordM, ← heq]
        exact (findS_mem hi1).symm
      · skip
        have hne : ¬ words[i] = s := by simpa using hc17
        refine AW.skip ?_
        refine hK7 _ _ ?_; try clear hK7 K7
        refine AW.lastl false [4] (by rfl) fun K hK => ?_ -- region 4
        simp only [go_sem, Nat.reduceAdd, Nat.reduceEqDiff, Nat.reduceLeDiff, true_and, List.length_map, len_row, ba_beqL]
        refine hK _ _ fun env' hw => ?_
        simp only [setL_cons, setL_nil, List.set_cons_zero, List.set_cons_succ] at hw
        refine ⟨i + 1, by omega, ⟨by omega, findS_take hi1 hit (fun e => hne e.symm)⟩, ?_, rfl⟩
        refine hw.trans ?_
        simp [Wk, wrap_succ hi1 (by decide)]
        try omega
    · skip
      have hi1 : i = words.length := by
        have : ¬ i < words.length := by simpa using hc9
        omega
      refine AW.exit ?_
      refine hK3 _ _ ?_; try clear hK3 K3
      refine AW.regl false [2] (by rfl) fun K10 hK10 => ?_ -- region 7
      simp only [go_sem, Nat.reduceAdd, Nat.reduceEqDiff, Nat.reduceLeDiff, true_and, List.length_map, len_row, ba_beqL]
      refine hK10 _ _ ?_; try clear hK10 K10
      conv => enter [5]; simp only [setL_cons, setL_nil, List.set_cons_zero, List.set_cons_succ]
      refine AW.ret ⟨.inr rfl, _, rfl, by simp, ?_⟩ -- return 2
      refine frzB ?_
      rw [wordM]
      rw [hi1, List.take_length] at hit
      rw [hit]
      rfl

set_option maxRecDepth 100000 in
theorem name_calls (hΓ : Words Γ) (s : ByteArray) (hs : s.size ≤ 1000000000) : APure prog Γ 43 [.val (.string s)] (.val (.bool (nameM s))) := by
  refine APure.of func43 rfl fun σ => ?_
  simp only [ntmps43, List.length_cons, List.length_nil, Nat.reduceAdd, Nat.reduceSub, List.replicate_succ, List.replicate_zero, List.cons_append, List.nil_append]
  refine AW.regl false [2] (by rfl) fun K1 hK1 => ?_ -- region 0
  simp only [go_sem, Nat.reduceAdd, Nat.reduceEqDiff, Nat.reduceLeDiff, true_and, List.length_map, len_row, ba_beqL, byteAV]
  refine hK1 _ _ ?_; try clear hK1 K1
  conv => enter [5]; simp only [setL_cons, setL_nil, List.set_cons_zero, List.set_cons_succ]
  refine AW.seq_k fun K2 hK2 => ?_
  refine AW.regtf false 16 (.val (.bool (((decide (s = ⟨#[]⟩)) || (decide (((s.size : Nat) : Int) > 60))) || (wordM s)))) (by rfl) ?_ ?_ -- region 1
  · skip
    cases h7 : ((decide (s = ⟨#[]⟩)))
    · skip
      cases h11 : ((decide (((s.size : Nat) : Int) > 60)))
      · skip
        simp only [go_sem, Nat.reduceAdd, Nat.reduceEqDiff, Nat.reduceLeDiff, true_and, List.length_map, len_row, ba_beqL, byteAV, h7, h11]
        refine sC.of en45 ((word_calls hΓ s).on _).here (by rfl) ?_
        simp only [go_sem, Nat.reduceAdd, Nat.reduceEqDiff, Nat.reduceLeDiff, true_and, List.length_map, len_row, ba_beqL, byteAV, h7, h11]
        try simp [upd_at, h7, h11, List.length_map, len_row, ba_beqL, byteAV]
      · skip
        simp only [go_sem, Nat.reduceAdd, Nat.reduceEqDiff, Nat.reduceLeDiff, true_and, List.length_map, len_row, ba_beqL, byteAV, h7, h11]
        try simp [upd_at, h7, h11, List.length_map, len_row, ba_beqL, byteAV]
    · skip
      simp only [go_sem, Nat.reduceAdd, Nat.reduceEqDiff, Nat.reduceLeDiff, true_and, List.length_map, len_row, ba_beqL, byteAV, h7]
      try simp [upd_at, h7, List.length_map, len_row, ba_beqL, byteAV]
  conv => enter [5]; simp only [List.set_cons_zero, List.set_cons_succ]
  refine AW.cond rfl (fun hc16 => ?_) (fun hc16 => ?_)
  · skip
    refine AW.regl false [2] (by rfl) fun K4 hK4 => ?_ -- region 2
    simp only [go_sem, Nat.reduceAdd, Nat.reduceEqDiff, Nat.reduceLeDiff, true_and, List.length_map, len_row, ba_beqL, byteAV]
    refine hK4 _ _ ?_; try clear hK4 K4
    conv => enter [5]; simp only [setL_cons, setL_nil, List.set_cons_zero, List.set_cons_succ]
    refine AW.ret ⟨.inr rfl, _, rfl, by simp, ?_⟩ -- return 1
    refine frzB ?_
    rw [nameM, hc16]
    rfl
  · skip
    refine AW.skip ?_
    refine hK2 _ _ ?_; try clear hK2 K2
    refine AW.seq_k fun K5 hK5 => ?_
    have hcv := fun σ => cvb9_23 σ s (by omega)
    refine AW.regl false [18, 19, 20] (by rfl) fun K6 hK6 => ?_ -- region 3
    simp only [go_sem, Nat.reduceAdd, Nat.reduceEqDiff, Nat.reduceLeDiff, true_and, List.length_map, len_row, ba_beqL, byteAV, hcv]
    refine hK6 _ _ ?_; try clear hK6 K6
    conv => enter [5]; simp only [setL_cons, setL_nil, List.set_cons_zero, List.set_cons_succ]
    refine AW.block ?_
    refine AW.loop_wk (α := Nat) (fun i => [.any, .any, .any, .any, .any, .any, .any, .any, .any, .any, .any, .any, .any, .any, .any, .any, .any, .any, (rowAV 1 false (s.data.toList.map byteAV)), (.val (.int .i64 ((s.data.toList.length : Nat) : Int))), (.val (.int .i64 ((i : Nat) : Int))), .any, .any, .any, .any, .any, .any, .any, .any, .any, .any, .any, .any, .any, .any, .any, .any, .any, .any, .any, .any, .any, .any, .any, .any, .any, .any, .any, .any, .any, .any, .any, .any, .any, .any, .any, .any, .any]) (fun i => σ) (fun i => s.data.toList.length - i) (fun i => i ≤ s.data.toList.length ∧ okFrom 0 s.data.toList = okFrom i (s.data.toList.drop i)) 0 ?_ ?_
    · exact ⟨⟨Nat.zero_le _, rfl⟩, by simp [Wk], rfl⟩
    · rintro i ⟨hi, hit⟩
      refine AW.regl false [21] (by rfl) fun K7 hK7 => ?_ -- region 4
      simp only [go_sem, Nat.reduceAdd, Nat.reduceEqDiff, Nat.reduceLeDiff, true_and, List.length_map, len_row, ba_beqL, byteAV]
      refine hK7 _ _ ?_; try clear hK7 K7
      conv => enter [5]; simp only [setL_cons, setL_nil, List.set_cons_zero, List.set_cons_succ]
      refine AW.seq_k fun K8 hK8 => ?_
      refine AW.cond rfl (fun hc21 => ?_) (fun hc21 => ?_)
      · skip
        have hi1 : i < s.data.toList.length := by simpa using hc21
        obtain ⟨b, hb⟩ : ∃ z, z = s.data.toList[i] := ⟨_, rfl⟩
        have hx : (s.data.toList.map byteAV)[i]? = some (byteAV b) := by rw [hb, List.getElem?_map, List.getElem?_eq_getElem hi1]; rfl
        refine AW.skip ?_
        refine hK8 _ _ ?_; try clear hK8 K8
        refine AW.seq_k fun K9 hK9 => ?_
        refine AW.block ?_
        refine AW.regl false [3, 4] (by rfl) fun K10 hK10 => ?_ -- region 5
        simp only [go_sem, Nat.reduceAdd, Nat.reduceEqDiff, Nat.reduceLeDiff, true_and, List.length_map, len_row, ba_beqL, byteAV, at_row hx]
        refine hK10 _ _ ?_; try clear hK10 K10
        conv => enter [5]; simp only [setL_cons, setL_nil, List.set_cons_zero, List.set_cons_succ]
        refine AW.regtf false 5 (.val (.bool (letter b))) (by rfl) ?_ ?_ -- region 6
        · skip
          cases h26 : ((decide (((b.toNat : Nat) : Int) ≥ 97)))
          · skip
            cases h33 : ((decide (((b.toNat : Nat) : Int) ≥ 65)))
            · skip
              simp only [go_sem, Nat.reduceAdd, Nat.reduceEqDiff, Nat.reduceLeDiff, true_and, List.length_map, len_row, ba_beqL, byteAV, letter, h26, h33]
              try simp [upd_at, h26, h33, List.length_map, len_row, ba_beqL, byteAV, letter]
            · skip
              cases h36 : ((decide (((b.toNat : Nat) : Int) ≤ 90)))
              · skip
                simp only [go_sem, Nat.reduceAdd, Nat.reduceEqDiff, Nat.reduceLeDiff, true_and, List.length_map, len_row, ba_beqL, byteAV, letter, h26, h33, h36]
                try simp [upd_at, h26, h33, h36, List.length_map, len_row, ba_beqL, byteAV, letter]
              · skip
                simp only [go_sem, Nat.reduceAdd, Nat.reduceEqDiff, Nat.reduceLeDiff, true_and, List.length_map, len_row, ba_beqL, byteAV, letter, h26, h33, h36]
                try simp [upd_at, h26, h33, h36, List.length_map, len_row, ba_beqL, byteAV, letter]
          · skip
            cases h29 : ((decide (((b.toNat : Nat) : Int) ≤ 122)))
            · skip
              cases h33 : ((decide (((b.toNat : Nat) : Int) ≥ 65)))
              · skip
                simp only [go_sem, Nat.reduceAdd, Nat.reduceEqDiff, Nat.reduceLeDiff, true_and, List.length_map, len_row, ba_beqL, byteAV, letter, h26, h29, h33]
                try simp [upd_at, h26, h29, h33, List.length_map, len_row, ba_beqL, byteAV, letter]
              · skip
                cases h36 : ((decide (((b.toNat : Nat) : Int) ≤ 90)))
                · skip
                  simp only [go_sem, Nat.reduceAdd, Nat.reduceEqDiff, Nat.reduceLeDiff, true_and, List.length_map, len_row, ba_beqL, byteAV, letter, h26, h29, h33, h36]
                  try simp [upd_at, h26, h29, h33, h36, List.length_map, len_row, ba_beqL, byteAV, letter]
                · skip
                  simp only [go_sem, Nat.reduceAdd, Nat.reduceEqDiff, Nat.reduceLeDiff, true_and, List.length_map, len_row, ba_beqL, byteAV, letter, h26, h29, h33, h36]
                  try simp [upd_at, h26, h29, h33, h36, List.length_map, len_row, ba_beqL, byteAV, letter]
            · skip
              simp only [go_sem, Nat.reduceAdd, Nat.reduceEqDiff, Nat.reduceLeDiff, true_and, List.length_map, len_row, ba_beqL, byteAV, letter, h26, h29]
              try simp [upd_at, h26, h29, List.length_map, len_row, ba_beqL, byteAV, letter]
        conv => enter [5]; simp only [List.set_cons_zero, List.set_cons_succ]
        refine AW.regtf false 56 (.val (.bool (!(letter b) && ((decide (i = 0) || !digit b))))) (by rfl) ?_ ?_ -- region 7
        · skip
          cases h5 : ((letter b))
          · skip
            cases h47 : ((((i : Nat) : Int) == 0))
            · skip
              cases h50 : ((decide (((b.toNat : Nat) : Int) < 48)))
              · skip
                simp only [go_sem, Nat.reduceAdd, Nat.reduceEqDiff, Nat.reduceLeDiff, true_and, List.length_map, len_row, ba_beqL, byteAV, digit, h5, h47, h50]
                try simp [upd_at, h5, h47, h50, List.length_map, len_row, ba_beqL, byteAV, digit]
                all_goals try (simp at *)
                all_goals try omega
                all_goals try (simp [show ¬ (i = 0) by omega])
                all_goals try omega
                all_goals try (rw [Bool.eq_iff_iff]; simp; omega)
              · skip
                simp only [go_sem, Nat.reduceAdd, Nat.reduceEqDiff, Nat.reduceLeDiff, true_and, List.length_map, len_row, ba_beqL, byteAV, digit, h5, h47, h50]
                try simp [upd_at, h5, h47, h50, List.length_map, len_row, ba_beqL, byteAV, digit]
                all_goals try (simp at *)
                all_goals try omega
                all_goals try (simp [show ¬ (i = 0) by omega])
                all_goals try omega
                all_goals try (rw [Bool.eq_iff_iff]; simp; omega)
            · skip
              simp only [go_sem, Nat.reduceAdd, Nat.reduceEqDiff, Nat.reduceLeDiff, true_and, List.length_map, len_row, ba_beqL, byteAV, digit, h5, h47]
              try simp [upd_at, h5, h47, List.length_map, len_row, ba_beqL, byteAV, digit]
              all_goals try (simp at *)
              all_goals try omega
              all_goals try (simp [show ¬ (i = 0) by omega])
              all_goals try omega
              all_goals try (rw [Bool.eq_iff_iff]; simp; omega)
          · skip
            simp only [go_sem, Nat.reduceAdd, Nat.reduceEqDiff, Nat.reduceLeDiff, true_and, List.length_map, len_row, ba_beqL, byteAV, digit, h5]
            try simp [upd_at, h5, List.length_map, len_row, ba_beqL, byteAV, digit]
            all_goals try (simp at *)
            all_goals try omega
            all_goals try (simp [show ¬ (i = 0) by omega])
            all_goals try omega
            all_goals try (rw [Bool.eq_iff_iff]; simp; omega)
        conv => enter [5]; simp only [List.set_cons_zero, List.set_cons_succ]
        refine AW.cond rfl (fun hc56 => ?_) (fun hc56 => ?_)
        · skip
          have hok : (letter b || (decide (0 < i) && digit b)) = false := by
            cases h1 : letter b <;> cases h2 : digit b <;> simp [h1, h2] at hc56 ⊢ <;> omega
          refine AW.regl false [2] (by rfl) fun K13 hK13 => ?_ -- region 8
          simp only [go_sem, Nat.reduceAdd, Nat.reduceEqDiff, Nat.reduceLeDiff, true_and, List.length_map, len_row, ba_beqL, byteAV]
          refine hK13 _ _ ?_; try clear hK13 K13
          conv => enter [5]; simp only [setL_cons, setL_nil, List.set_cons_zero, List.set_cons_succ]
          refine AW.ret ⟨.inr rfl, _, rfl, by simp, ?_⟩ -- return 2
          refine frzB ?_
          rw [nameM, hit, okFrom_drop hi1, ← hb, hok]
          simp
        · skip
          have hok : (letter b || (decide (0 < i) && digit b)) = true := by
            cases h1 : letter b <;> cases h2 : digit b <;> simp [h1, h2] at hc56 ⊢ <;> omega
          refine AW.skip ?_
          refine hK9 _ _ ?_; try clear hK9 K9
          refine AW.lastl false [20] (by rfl) fun K hK => ?_ -- region 9
          simp only [go_sem, Nat.reduceAdd, Nat.reduceEqDiff, Nat.reduceLeDiff, true_and, List.length_map, len_row, ba_beqL, byteAV]
          refine hK _ _ fun env' hw => ?_
          simp only [setL_cons, setL_nil, List.set_cons_zero, List.set_cons_succ] at hw
          refine ⟨i + 1, by omega, ⟨by omega, by rw [hit, okFrom_drop hi1, ← hb, hok]; rfl⟩, ?_, rfl⟩
          refine hw.trans ?_
          simp [Wk, wrap_succ hi1 (by rw [maxLen_eq, ba_len]; omega)]
          try omega
      · skip
        have hi1 : i = s.data.toList.length := by
          have : ¬ i < s.data.toList.length := by simpa using hc21
          omega
        refine AW.exit ?_
        refine hK5 _ _ ?_; try clear hK5 K5
        refine AW.regl false [2] (by rfl) fun K14 hK14 => ?_ -- region 10
        simp only [go_sem, Nat.reduceAdd, Nat.reduceEqDiff, Nat.reduceLeDiff, true_and, List.length_map, len_row, ba_beqL, byteAV]
        refine hK14 _ _ ?_; try clear hK14 K14
        conv => enter [5]; simp only [setL_cons, setL_nil, List.set_cons_zero, List.set_cons_succ]
        refine AW.ret ⟨.inr rfl, _, rfl, by simp, ?_⟩ -- return 3
        refine frzB ?_
        rw [nameM, hit, hi1, List.drop_length, hc16]
        rfl

set_option maxRecDepth 100000 in
theorem rname_calls (s : ByteArray) (hs : s.size ≤ 1000000000) : APure prog Γ 44 [.val (.string s)] (.val (.bool (nameM s))) := by
  refine APure.of func44 rfl fun σ => ?_
  simp only [ntmps44, List.length_cons, List.length_nil, Nat.reduceAdd, Nat.reduceSub, List.replicate_succ, List.replicate_zero, List.cons_append, List.nil_append]
  refine AW.regl false [2] (by rfl) fun K1 hK1 => ?_ -- region 0
  simp only [go_sem, Nat.reduceAdd, Nat.reduceEqDiff, Nat.reduceLeDiff, true_and, ba_beqL]
  refine hK1 _ _ ?_; try clear hK1 K1
  conv => enter [5]; simp only [setL_cons, setL_nil, List.set_cons_zero, List.set_cons_succ]
  refine AW.seq_k fun K2 hK2 => ?_
  refine AW.regl false [3] (by rfl) fun K3 hK3 => ?_ -- region 1
  simp only [go_sem, Nat.reduceAdd, Nat.reduceEqDiff, Nat.reduceLeDiff, true_and, ba_beqL]
  refine hK3 _ _ ?_; try clear hK3 K3
  conv => enter [5]; simp only [setL_cons, setL_nil, List.set_cons_zero, List.set_cons_succ]
  refine AW.block ?_
  refine AW.loop_wk (α := Nat) (fun i => [(.val (.string s)), .any, .any, (.val (.int .i64 ((i : Nat) : Int))), .any, .any, .any, .any, .any, .any, .any, .any, .any, .any, .any, .any, .any, .any, .any, .any, .any, .any, .any, .any, .any, .any, .any, .any, .any, .any, .any, .any, .any, .any, .any, .any, .any, .any, .any]) (fun i => σ) (fun i => s.size - i) (fun i => i ≤ s.size ∧ okFrom 0 s.data.toList = okFrom i (s.data.toList.drop i)) 0 ?_ ?_
  · exact ⟨⟨Nat.zero_le _, rfl⟩, by simp [Wk], rfl⟩
  · rintro i ⟨hi, hit⟩
    refine AW.seq_k fun K4 hK4 => ?_
    refine AW.regl false [7] (by rfl) fun K5 hK5 => ?_ -- region 2
    simp only [go_sem, Nat.reduceAdd, Nat.reduceEqDiff, Nat.reduceLeDiff, true_and, ba_beqL]
    refine hK5 _ _ ?_; try clear hK5 K5
    conv => enter [5]; simp only [setL_cons, setL_nil, List.set_cons_zero, List.set_cons_succ]
    refine AW.cond rfl (fun hc7 => ?_) (fun hc7 => ?_)
    · skip
      have hi1 : i < s.size := by simpa using hc7
      obtain ⟨b, hb⟩ : ∃ z, z = s.data.toList[i]'hi1 := ⟨_, rfl⟩
      have hx : ∀ k : IntKind, aIndex prog 9 (str s) (.val (.int k i)) = some (.val (.int .u8 b.toNat)) := fun k => by rw [index_str tyStr9 s k i hi1, hb, ba_get s hi1]
      refine AW.skip ?_
      refine hK4 _ _ ?_; try clear hK4 K4
      refine AW.seq_k fun K6 hK6 => ?_
      refine AW.block ?_
      refine AW.regtf false 25 (.val (.bool (!(letter b || (decide (0 < i) && digit b))))) (by rfl) ?_ ?_ -- region 4
      · skip
        cases h13 : ((letter b))
        · skip
          cases h17 : ((decide (((i : Nat) : Int) > 0)))
          · skip
            simp only [go_sem, Nat.reduceAdd, Nat.reduceEqDiff, Nat.reduceLeDiff, true_and, ba_beqL, hx, h13, h17]
            refine sC.of en74 ((letter_calls b).on _).here (by rfl) ?_
            simp only [go_sem, Nat.reduceAdd, Nat.reduceEqDiff, Nat.reduceLeDiff, true_and, ba_beqL, hx, h13, h17]
            try simp [upd_at, h13, h17, ba_beqL, hx]
            all_goals try (simp_all <;> omega)
          · skip
            simp only [go_sem, Nat.reduceAdd, Nat.reduceEqDiff, Nat.reduceLeDiff, true_and, ba_beqL, hx, h13, h17]
            refine sC.of en74 ((letter_calls b).on _).here (by rfl) ?_
            simp only [go_sem, Nat.reduceAdd, Nat.reduceEqDiff, Nat.reduceLeDiff, true_and, ba_beqL, hx, h13, h17]
            refine sC.of en75 ((digit_calls b).on _).here (by rfl) ?_
            simp only [go_sem, Nat.reduceAdd, Nat.reduceEqDiff, Nat.reduceLeDiff, true_and, ba_beqL, hx, h13, h17]
            try simp [upd_at, h13, h17, ba_beqL, hx]
            all_goals try (simp_all <;> omega)
        · skip
          simp only [go_sem, Nat.reduceAdd, Nat.reduceEqDiff, Nat.reduceLeDiff, true_and, ba_beqL, hx, h13]
          refine sC.of en74 ((letter_calls b).on _).here (by rfl) ?_
          simp only [go_sem, Nat.reduceAdd, Nat.reduceEqDiff, Nat.reduceLeDiff, true_and, ba_beqL, hx, h13]
          try simp [upd_at, h13, ba_beqL, hx]
          all_goals try (simp_all <;> omega)
      conv => enter [5]; simp only [List.set_cons_zero, List.set_cons_succ]
      refine AW.cond rfl (fun hc25 => ?_) (fun hc25 => ?_)
      · skip
        have hok : (letter b || (decide (0 < i) && digit b)) = false := by cases h1 : letter b <;> cases h2 : digit b <;> simp [h1, h2] at hc25 ⊢ <;> omega
        refine AW.regl false [2] (by rfl) fun K8 hK8 => ?_ -- region 5
        simp only [go_sem, Nat.reduceAdd, Nat.reduceEqDiff, Nat.reduceLeDiff, true_and, ba_beqL]
        refine hK8 _ _ ?_; try clear hK8 K8
        conv => enter [5]; simp only [setL_cons, setL_nil, List.set_cons_zero, List.set_cons_succ]
        refine AW.ret ⟨.inr rfl, _, rfl, by simp, ?_⟩ -- return 1
        refine frzB ?_
        rw [nameM, hit, okFrom_drop hi1, ← hb, hok]
        simp
      · skip
        have hok : (letter b || (decide (0 < i) && digit b)) = true := by cases h1 : letter b <;> cases h2 : digit b <;> simp [h1, h2] at hc25 ⊢ <;> omega
        refine AW.skip ?_
        refine hK6 _ _ ?_; try clear hK6 K6
        refine AW.lastl false [3] (by rfl) fun K hK => ?_ -- region 3
        simp only [go_sem, Nat.reduceAdd, Nat.reduceEqDiff, Nat.reduceLeDiff, true_and, ba_beqL]
        refine hK _ _ fun env' hw => ?_
        simp only [setL_cons, setL_nil, List.set_cons_zero, List.set_cons_succ] at hw
        refine ⟨i + 1, by omega, ⟨by omega, by rw [hit, okFrom_drop hi1, ← hb, hok]; rfl⟩, ?_, rfl⟩
        refine hw.trans ?_
        simp [Wk, wrap_succ hi1 (by rw [maxLen_eq]; omega)]
        try omega
    · skip
      have hi1 : i = s.size := by
        have : ¬ i < s.size := by simpa using hc7
        omega
      refine AW.exit ?_
      refine hK2 _ _ ?_; try clear hK2 K2
      refine AW.regtf false 2 (.val (.bool (((decide (((s.size : Nat) : Int) ≥ 1)) && (decide (((s.size : Nat) : Int) ≤ 60))) && !((wordM s))))) (by rfl) ?_ ?_ -- region 6
      · skip
        cases h28 : ((decide (((s.size : Nat) : Int) ≥ 1)))
        · skip
          simp only [go_sem, Nat.reduceAdd, Nat.reduceEqDiff, Nat.reduceLeDiff, true_and, ba_beqL, h28]
          try simp [upd_at, h28, ba_beqL]
        · skip
          cases h32 : ((decide (((s.size : Nat) : Int) ≤ 60)))
          · skip
            simp only [go_sem, Nat.reduceAdd, Nat.reduceEqDiff, Nat.reduceLeDiff, true_and, ba_beqL, h28, h32]
            try simp [upd_at, h28, h32, ba_beqL]
          · skip
            simp only [go_sem, Nat.reduceAdd, Nat.reduceEqDiff, Nat.reduceLeDiff, true_and, ba_beqL, h28, h32]
            refine sC.of en46 ((rword_calls s).on _).here (by rfl) ?_
            simp only [go_sem, Nat.reduceAdd, Nat.reduceEqDiff, Nat.reduceLeDiff, true_and, ba_beqL, h28, h32]
            try simp [upd_at, h28, h32, ba_beqL]
      conv => enter [5]; simp only [List.set_cons_zero, List.set_cons_succ]
      refine AW.ret ⟨.inr rfl, _, rfl, by simp, ?_⟩ -- return 2
      refine frzB ?_
      rw [nameM, hit, hi1, List.drop_of_length_le (by rw [ba_len]; exact Nat.le_refl _)]
      by_cases h0 : s = ⟨#[]⟩
      · subst h0; rfl
      · have h1 : 1 ≤ s.size := by
          rcases Nat.eq_zero_or_pos s.size with h | h
          · exact absurd (ByteArray.ext (by simpa using Array.eq_empty_of_size_eq_zero h)) h0
          · exact h
        have h1 : (1 : Int) ≤ s.size := by omega
        simp only [okFrom, h0, h1, decide_true, decide_false, Bool.true_and, Bool.false_or, Bool.and_true]
        rw [Bool.eq_iff_iff]
        simp
end A
end Go.Proofs.Tryd

