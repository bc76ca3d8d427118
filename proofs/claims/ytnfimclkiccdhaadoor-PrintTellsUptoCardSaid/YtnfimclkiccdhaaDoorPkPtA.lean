import Derived.Test.YtnfimclkiccdhaaDoorPtTy
import Derived.Test.YtnfimclkiccdhaaDoorPtEvIter
import Derived.Test.YtnfimclkiccdhaaDoorPtEvDraw4
import Derived.Test.YtnfimclkiccdhaaDoorPtEvCut
import Derived.Test.YtnfimclkiccdhaaDoorPtEvList
/-! Expressions: what they are, and what is asked of them. -/
namespace Go.Proofs.Tryd
set_option linter.unusedSimpArgs false
set_option linter.unusedVariables false
open Go Go.Proofs.Ev
namespace A
abbrev i64 (n : Int) : AV := .val (.int .i64 n)
abbrev str (s : ByteArray) : AV := .val (.string s)
abbrev bool (b : Bool) : AV := .val (.bool b)
/-- An expression: its kind, its op, its number, its name, whether its operands are nil if there are none, its operands. -/
inductive E where
  | mk (kind op n : Int) (name : ByteArray) (nl : Bool) (kids : List E)
def E.kids : E → List E
  | .mk _ _ _ _ _ l => l
mutual
def E.enc : E → AV
  | .mk k o n s nl l => .agg [i64 k, i64 o, i64 n, str s, rowAV 5 nl (encL l)]
def encL : List E → List AV
  | [] => []
  | e :: l => e.enc :: encL l
end
theorem encL_map : ∀ l : List E, encL l = l.map E.enc
  | [] => rfl
  | e :: l => by rw [encL, encL_map l]; rfl
theorem E.enc_mk (k o n : Int) (s : ByteArray) (nl : Bool) (l : List E) : (E.mk k o n s nl l).enc = .agg [i64 k, i64 o, i64 n, str s, rowAV 5 nl (l.map E.enc)] := by rw [E.enc, encL_map]
mutual
def E.size : E → Nat
  | .mk _ _ _ _ _ l => 1 + sizeL l
def sizeL : List E → Nat
  | [] => 0
  | e :: l => e.size + sizeL l
end
mutual
def E.depth : E → Nat
  | .mk _ _ _ _ _ l => depthL l + 1
def depthL : List E → Nat
  | [] => 0
  | e :: l => max e.depth (depthL l)
end
mutual
/-- Nil where there is nothing. -/
def E.norm : E → E
  | .mk k o n s _ l => .mk k o n s true (normL l)
def normL : List E → List E
  | [] => []
  | e :: l => e.norm :: normL l
end
theorem normL_map : ∀ l : List E, normL l = l.map E.norm
  | [] => rfl
  | e :: l => by rw [normL, normL_map l]; rfl
theorem E.norm_mk (k o n : Int) (s : ByteArray) (nl : Bool) (l : List E) : (E.mk k o n s nl l).norm = .mk k o n s true (l.map E.norm) := by rw [E.norm, normL_map]
mutual
/-- It, and all below it, each ahead of its operands. -/
def E.pre : E → List E
  | .mk k o n s nl l => .mk k o n s nl l :: preL l
def preL : List E → List E
  | [] => []
  | e :: l => e.pre ++ preL l
end
mutual
theorem E.ind {p : E → Prop} (h : ∀ k o n s nl l, (∀ e ∈ l, p e) → p (.mk k o n s nl l)) : ∀ e, p e
  | .mk k o n s nl l => h k o n s nl l (E.indL h l)
theorem E.indL {p : E → Prop} (h : ∀ k o n s nl l, (∀ e ∈ l, p e) → p (.mk k o n s nl l)) : ∀ (l : List E) (e : E), e ∈ l → p e
  | [], _, he => by cases he
  | e :: l, d, hd => (List.mem_cons.1 hd).elim (fun q => q ▸ E.ind h e) (fun q => E.indL h l d q)
end
theorem sizeL_append : ∀ (l m : List E), sizeL (l ++ m) = sizeL l + sizeL m
  | [], m => by simp [sizeL]
  | e :: l, m => by simp [sizeL, sizeL_append l m, Nat.add_assoc]
theorem sizeL_take {l : List E} {i : Nat} (h : i < l.length) : sizeL (l.take (i + 1)) = sizeL (l.take i) + (l[i]).size := by
  rw [List.take_succ_eq_append_getElem h, sizeL_append]
  simp [sizeL]
theorem sizeL_le {l : List E} (i : Nat) : sizeL (l.take i) ≤ sizeL l := by
  have := congrArg sizeL (List.take_append_drop i l)
  rw [sizeL_append] at this
  omega
theorem size_pos (e : E) : 1 ≤ e.size := by cases e; simp [E.size]
theorem length_sizeL : ∀ l : List E, l.length ≤ sizeL l
  | [] => by simp [sizeL]
  | e :: l => by
    have := size_pos e
    have := length_sizeL l
    simp [sizeL]
    omega
theorem size_mem {e : E} : ∀ {l : List E}, e ∈ l → e.size ≤ sizeL l
  | d :: l, h => by
    simp only [sizeL]
    rcases List.mem_cons.1 h with rfl | h
    · omega
    · have := size_mem h
      omega
theorem depthL_append : ∀ (l m : List E), depthL (l ++ m) = max (depthL l) (depthL m)
  | [], m => by simp [depthL]
  | e :: l, m => by simp [depthL, depthL_append l m, Nat.max_assoc]
theorem depthL_take {l : List E} {i : Nat} (h : i < l.length) : depthL (l.take (i + 1)) = max (depthL (l.take i)) (l[i]).depth := by
  rw [List.take_succ_eq_append_getElem h, depthL_append]
  simp [depthL]
theorem depth_size : ∀ e : E, e.depth ≤ e.size := E.ind fun k o n s nl l ih => by
  have go : ∀ l : List E, (∀ e ∈ l, e.depth ≤ e.size) → depthL l ≤ sizeL l := by
    intro l
    induction l with
    | nil => simp [depthL]
    | cons e l ih' =>
      intro h
      have h1 := h e List.mem_cons_self
      have h2 := ih' fun d hd => h d (List.mem_cons_of_mem _ hd)
      simp only [depthL, sizeL]
      omega
  have := go l ih
  simp only [E.depth, E.size]
  omega
theorem preL_append : ∀ (l m : List E), preL (l ++ m) = preL l ++ preL m
  | [], m => rfl
  | e :: l, m => by simp [preL, preL_append l m]
theorem preL_take {l : List E} {i : Nat} (h : i < l.length) : preL (l.take (i + 1)) = preL (l.take i) ++ (l[i]).pre := by
  rw [List.take_succ_eq_append_getElem h, preL_append]
  simp [preL]
theorem pre_length : ∀ e : E, e.pre.length = e.size := E.ind fun k o n s nl l ih => by
  have go : ∀ l : List E, (∀ e ∈ l, e.pre.length = e.size) → (preL l).length = sizeL l := by
    intro l
    induction l with
    | nil => simp [preL, sizeL]
    | cons e l ih' =>
      intro h
      have h1 := h e List.mem_cons_self
      have h2 := ih' fun d hd => h d (List.mem_cons_of_mem _ hd)
      simp only [preL, sizeL, List.length_append]
      omega
  have := go l ih
  simp only [E.pre, E.size, List.length_cons]
  omega
theorem preL_length (l : List E) : (preL l).length = sizeL l := by
  induction l with
  | nil => simp [preL, sizeL]
  | cons e l ih => simp [preL, sizeL, pre_length, ih]
noncomputable instance : DecidableEq E := fun _ _ => Classical.propDecidable _
theorem enc_cells (e : E) : ∃ a b c d r, e.enc = .agg [a, b, c, d, r] := by
  cases e
  exact ⟨_, _, _, _, _, E.enc_mk _ _ _ _ _ _⟩
theorem enc_len (e : E) : e.enc.cells.length = 5 := by
  obtain ⟨a, b, c, d, r, h⟩ := enc_cells e
  rw [h]
  rfl
theorem enc_one (e : E) : e.enc.cells.all AV.one = true := by
  cases e
  rw [E.enc_mk]
  simp only [AV.cells, List.all_cons, List.all_nil, one_int, one_str, one_row, Bool.and_true]
theorem enc_bel (n : Nat) : ∀ e : E, e.enc.bel n = true := E.ind fun k o m s nl l ih => by
  rw [E.enc_mk]
  have : (rowAV 5 nl (l.map E.enc)).bel n = true := by
    cases l with
    | nil => cases nl <;> rfl
    | cons a l => exact belL_map E.enc (a :: l) ih
  simp [AV.bel, belL, this]
theorem enc_get43 (e : E) : aGet prog 27 e.enc.cells = some e.enc := by
  obtain ⟨a, b, c, d, r, h⟩ := enc_cells e
  rw [h]
  exact get27 a b c d r []
theorem enc_get47 (e : E) : aGet prog 43 e.enc.cells = some e.enc := by
  obtain ⟨a, b, c, d, r, h⟩ := enc_cells e
  rw [h]
  exact get43 a b c d r []
theorem enc_agg (e : E) : .agg e.enc.cells = e.enc := by
  obtain ⟨a, b, c, d, r, h⟩ := enc_cells e
  rw [h]
  rfl
end A
end Go.Proofs.Tryd
/-! Names. -/
namespace Go.Proofs.Tryd
set_option linter.unusedSimpArgs false
set_option linter.unusedVariables false
open Go Go.Proofs.Ev
namespace A
variable {Γ : List (Nat × List AV)}
def words : List ByteArray := [⟨#[97, 110, 100]⟩, ⟨#[98, 111, 111, 108]⟩, ⟨#[99, 111, 110, 115, 116]⟩, ⟨#[100, 105, 118]⟩, ⟨#[101, 108, 115, 101]⟩, ⟨#[102, 97, 108, 115, 101]⟩, ⟨#[105, 102]⟩, ⟨#[105, 110, 116]⟩, ⟨#[108, 101, 116]⟩, ⟨#[109, 111, 100]⟩, ⟨#[110, 111, 100, 101]⟩, ⟨#[110, 111, 116]⟩, ⟨#[111, 114]⟩, ⟨#[112, 114, 101]⟩, ⟨#[114, 101, 116, 117, 114, 110, 115]⟩, ⟨#[116, 101, 108]⟩, ⟨#[116, 104, 101, 110]⟩, ⟨#[116, 114, 117, 101]⟩, ⟨#[118, 97, 114]⟩, ⟨#[120, 111, 114]⟩]
def wordM (s : ByteArray) : Bool := (findS words s).isSome
/-- The table of words stands there. -/
def Words (Γ : List (Nat × List AV)) : Prop := ∃ ks : List ByteArray, opnd Γ [] (.global 1) = .er [.mapf (ks.map Value.string) (List.replicate ks.length (bool true))] ∧ ∀ s, (findS ks s).isSome = wordM s
def letter (c : UInt8) : Bool := (((c.toNat : Int) == 95) || (decide ((c.toNat : Int) ≥ 97) && decide ((c.toNat : Int) ≤ 122))) || (decide ((c.toNat : Int) ≥ 65) && decide ((c.toNat : Int) ≤ 90))
def digit (c : UInt8) : Bool := decide ((c.toNat : Int) ≥ 48) && decide ((c.toNat : Int) ≤ 57)
def okFrom : Nat → List UInt8 → Bool
  | _, [] => true
  | i, c :: l => (letter c || (decide (0 < i) && digit c)) && okFrom (i + 1) l
def nameM (s : ByteArray) : Bool := (!(decide (s = ⟨#[]⟩) || decide ((s.size : Int) > 60) || wordM s)) && okFrom 0 s.data.toList
theorem okFrom_drop {l : List UInt8} {i : Nat} (h : i < l.length) : okFrom i (l.drop i) = ((letter l[i] || (decide (0 < i) && digit l[i])) && okFrom (i + 1) (l.drop (i + 1))) := by
  rw [List.drop_eq_getElem_cons h]
  rfl
theorem ba_len (s : ByteArray) : s.data.toList.length = s.size := rfl
theorem ba_get (s : ByteArray) {i : Nat} (h : i < s.size) : s[i]'h = s.data.toList[i]'h := rfl
theorem lk_words (ks : List ByteArray) (T : TypeId) {et : TypeId} (hT : prog.underlying T = some (.map 9 et)) (hz : aZero prog et = some (bool false)) (σ : Sto) (s : ByteArray) : aLookup prog σ T false (.mapf (ks.map Value.string) (List.replicate ks.length (bool true))) (str s) = some (bool (findS ks s).isSome) := by
  have hp : mapParts σ (.mapf (ks.map Value.string) (List.replicate ks.length (bool true))) = some (ks.map Value.string, List.replicate ks.length (bool true)) := rfl
  have hk : prog.underlying 9 = some .string := by kernel_rfl
  simp only [aLookup, hT, hp, hk, plainK, if_true, aFindK_str, hz]
  cases h : findS ks s with
  | none => rfl
  | some i =>
    have hi := (findS_lt h).1
    simp only [List.getElem?_replicate, Option.map, Bool.false_eq_true, if_false, Option.isSome, Nat.add_zero]
    rw [if_pos hi]
theorem parts_of {sz : Nat} {parts : List (Nat × AV)} (h : (parts.all fun p => (p.2.cells.length == sz) && p.2.cells.all AV.one) = true) : ∀ p ∈ parts, p.2.cells.length = sz ∧ p.2.cells.all AV.one = true := fun p hp => by
  have := List.all_eq_true.1 h p hp
  simpa using this
theorem row20 (σ : Sto) : aRow prog false σ 51 20 [(0, str ⟨#[97, 110, 100]⟩), (1, str ⟨#[98, 111, 111, 108]⟩), (2, str ⟨#[99, 111, 110, 115, 116]⟩), (3, str ⟨#[100, 105, 118]⟩), (4, str ⟨#[101, 108, 115, 101]⟩), (5, str ⟨#[102, 97, 108, 115, 101]⟩), (6, str ⟨#[105, 102]⟩), (7, str ⟨#[105, 110, 116]⟩), (8, str ⟨#[108, 101, 116]⟩), (9, str ⟨#[109, 111, 100]⟩), (10, str ⟨#[110, 111, 100, 101]⟩), (11, str ⟨#[110, 111, 116]⟩), (12, str ⟨#[111, 114]⟩), (13, str ⟨#[112, 114, 101]⟩), (14, str ⟨#[114, 101, 116, 117, 114, 110, 115]⟩), (15, str ⟨#[116, 101, 108]⟩), (16, str ⟨#[116, 104, 101, 110]⟩), (17, str ⟨#[116, 114, 117, 101]⟩), (18, str ⟨#[118, 97, 114]⟩), (19, str ⟨#[120, 111, 114]⟩)] = some (.sl 1 (words.map str), σ) := aRow_sl (by kernel_rfl) (by decide) (row51 (by decide) (by decide) rfl (parts_of rfl)) σ
theorem findS_mem : ∀ {l : List ByteArray} {i : Nat} (h : i < l.length), (findS l l[i]).isSome = true
  | a :: l, 0, _ => by simp [findS]
  | a :: l, i + 1, h => by
    have := findS_mem (l := l) (i := i) (by simpa using h)
    simp only [findS, List.getElem_cons_succ]
    split
    · rfl
    · simpa using this
theorem findS_take {l : List ByteArray} {s : ByteArray} {i : Nat} (h : i < l.length) (h1 : findS (l.take i) s = none) (h2 : ¬ s = l[i]) : findS (l.take (i + 1)) s = none := by
  induction l generalizing i with
  | nil => simp at h
  | cons a l ih =>
    cases i with
    | zero =>
      simp only [List.take_succ_cons, List.take_zero, findS, List.getElem_cons_zero] at h2 ⊢
      rw [if_neg h2]
      rfl
    | succ i =>
      simp only [List.take_succ_cons, findS, List.getElem_cons_succ] at h1 h2 ⊢
      split at h1
      · cases h1
      · rename_i hne
        rw [if_neg hne, ih (by simpa using h) (by simpa using h1) h2]
        rfl
set_option maxRecDepth 100000 in
theorem letter_calls (c : UInt8) : APure prog Γ 55 [.val (.int .u8 ((c.toNat : Nat) : Int))] (.val (.bool (letter c))) := by
  refine APure.of func55 rfl fun σ => ?_
  simp only [ntmps55, List.length_cons, List.length_nil, Nat.reduceAdd, Nat.reduceSub, List.replicate_succ, List.replicate_zero, List.cons_append, List.nil_append]
  refine AW.regl false [2] (by rfl) fun K1 hK1 => ?_ -- region 0
  simp only [go_sem, Nat.reduceAdd, Nat.reduceEqDiff, Nat.reduceLeDiff, true_and]
  refine hK1 _ _ ?_; try clear hK1 K1
  conv => enter [5]; simp only [setL_cons, setL_nil, List.set_cons_zero, List.set_cons_succ]
  refine AW.regtf false 2 (.val (.bool (((((c.toNat : Nat) : Int) == 95) || ((decide (((c.toNat : Nat) : Int) ≥ 97)) && (decide (((c.toNat : Nat) : Int) ≤ 122)))) || ((decide (((c.toNat : Nat) : Int) ≥ 65)) && (decide (((c.toNat : Nat) : Int) ≤ 90)))))) (by rfl) ?_ ?_ -- region 1
  · skip
    cases h4 : ((((c.toNat : Nat) : Int) == 95))
    · skip
      cases h7 : ((decide (((c.toNat : Nat) : Int) ≥ 97)))
      · skip
        cases h15 : ((decide (((c.toNat : Nat) : Int) ≥ 65)))
        · skip
          simp only [go_sem, Nat.reduceAdd, Nat.reduceEqDiff, Nat.reduceLeDiff, true_and, h4, h7, h15]
          try simp [upd_at, h4, h7, h15]
        · skip
          simp only [go_sem, Nat.reduceAdd, Nat.reduceEqDiff, Nat.reduceLeDiff, true_and, h4, h7, h15]
          try simp [upd_at, h4, h7, h15]
      · skip
        cases h10 : ((decide (((c.toNat : Nat) : Int) ≤ 122)))
        · skip
          cases h15 : ((decide (((c.toNat : Nat) : Int) ≥ 65)))
          · skip
            simp only [go_sem, Nat.reduceAdd, Nat.reduceEqDiff, Nat.reduceLeDiff, true_and, h4, h7, h10, h15]
            try simp [upd_at, h4, h7, h10, h15]
          · skip
            simp only [go_sem, Nat.reduceAdd, Nat.reduceEqDiff, Nat.reduceLeDiff, true_and, h4, h7, h10, h15]
            try simp [upd_at, h4, h7, h10, h15]
        · skip
          simp only [go_sem, Nat.reduceAdd, Nat.reduceEqDiff, Nat.reduceLeDiff, true_and, h4, h7, h10]
          try simp [upd_at, h4, h7, h10]
    · skip
      simp only [go_sem, Nat.reduceAdd, Nat.reduceEqDiff, Nat.reduceLeDiff, true_and, h4]
      try simp [upd_at, h4]
  conv => enter [5]; simp only [List.set_cons_zero, List.set_cons_succ]
  refine AW.ret ⟨.inr rfl, _, rfl, by simp, ?_⟩ -- return 1
  refine frzB ?_
  rfl

set_option maxRecDepth 100000 in
theorem digit_calls (c : UInt8) : APure prog Γ 56 [.val (.int .u8 ((c.toNat : Nat) : Int))] (.val (.bool (digit c))) := by
  refine APure.of func56 rfl fun σ => ?_
  simp only [ntmps56, List.length_cons, List.length_nil, Nat.reduceAdd, Nat.reduceSub, List.replicate_succ, List.replicate_zero, List.cons_append, List.nil_append]
  refine AW.regl false [2] (by rfl) fun K1 hK1 => ?_ -- region 0
  simp only [go_sem, Nat.reduceAdd, Nat.reduceEqDiff, Nat.reduceLeDiff, true_and]
  refine hK1 _ _ ?_; try clear hK1 K1
  conv => enter [5]; simp only [setL_cons, setL_nil, List.set_cons_zero, List.set_cons_succ]
  refine AW.regtf false 2 (.val (.bool ((decide (((c.toNat : Nat) : Int) ≥ 48)) && (decide (((c.toNat : Nat) : Int) ≤ 57))))) (by rfl) ?_ ?_ -- region 1
  · skip
    cases h4 : ((decide (((c.toNat : Nat) : Int) ≥ 48)))
    · skip
      simp only [go_sem, Nat.reduceAdd, Nat.reduceEqDiff, Nat.reduceLeDiff, true_and, h4]
      try simp [upd_at, h4]
    · skip
      simp only [go_sem, Nat.reduceAdd, Nat.reduceEqDiff, Nat.reduceLeDiff, true_and, h4]
      try simp [upd_at, h4]
  conv => enter [5]; simp only [List.set_cons_zero, List.set_cons_succ]
  refine AW.ret ⟨.inr rfl, _, rfl, by simp, ?_⟩ -- return 1
  refine frzB ?_
  rfl

set_option maxRecDepth 100000 in
theorem word_calls (hΓ : Words Γ) (s : ByteArray) : APure prog Γ 65 [.val (.string s)] (.val (.bool (wordM s))) := by
  refine APure.of func65 rfl fun σ => ?_
  simp only [ntmps65, List.length_cons, List.length_nil, Nat.reduceAdd, Nat.reduceSub, List.replicate_succ, List.replicate_zero, List.cons_append, List.nil_append]
  obtain ⟨ks, hΓ, hks⟩ := hΓ
  refine AW.regl false [2] (by rfl) fun K1 hK1 => ?_ -- region 0
  simp only [go_sem, Nat.reduceAdd, Nat.reduceEqDiff, Nat.reduceLeDiff, true_and, hΓ]
  refine hK1 _ _ ?_; try clear hK1 K1
  conv => enter [5]; simp only [setL_cons, setL_nil, List.set_cons_zero, List.set_cons_succ]
  refine AW.regl false [2] (by rfl) fun K2 hK2 => ?_ -- region 1
  simp only [go_sem, Nat.reduceAdd, Nat.reduceEqDiff, Nat.reduceLeDiff, true_and, hΓ, lk_words ks 124 underlying124 zero4]
  refine hK2 _ _ ?_; try clear hK2 K2
  conv => enter [5]; simp only [setL_cons, setL_nil, List.set_cons_zero, List.set_cons_succ]
  refine AW.ret ⟨.inr rfl, _, rfl, by simp, ?_⟩ -- return 1
  rw [hks s]
  exact .keep rfl


set_option maxRecDepth 100000 in
theorem words_calls  : APure prog Γ 71 [] (rowAV 1 false (words.map str)) := by
  refine APure.of func71 rfl fun σ => ?_
  simp only [ntmps71, List.length_cons, List.length_nil, Nat.reduceAdd, Nat.reduceSub, List.replicate_succ, List.replicate_zero, List.cons_append, List.nil_append]
  refine AW.regl false [0] (by rfl) fun K1 hK1 => ?_ -- region 0
  simp only [go_sem, Nat.reduceAdd, Nat.reduceEqDiff, Nat.reduceLeDiff, true_and]
  refine hK1 _ _ ?_; try clear hK1 K1
  conv => enter [5]; simp only [setL_cons, setL_nil, List.set_cons_zero, List.set_cons_succ]
  refine AW.regl false [0] (by rfl) fun K2 hK2 => ?_ -- region 1
  simp only [go_sem, Nat.reduceAdd, Nat.reduceEqDiff, Nat.reduceLeDiff, true_and, row20]
  refine hK2 _ _ ?_; try clear hK2 K2
  conv => enter [5]; simp only [setL_cons, setL_nil, List.set_cons_zero, List.set_cons_succ]
  refine AW.ret ⟨.inr rfl, _, rfl, by simp, ?_⟩ -- return 1
  rw [row_false]
  exact .keep rfl

set_option maxRecDepth 100000 in
theorem rword_calls (s : ByteArray) : APure prog Γ 57 [.val (.string s)] (.val (.bool (wordM s))) := by
  refine APure.of func57 rfl fun σ => ?_
  simp only [ntmps57, List.length_cons, List.length_nil, Nat.reduceAdd, Nat.reduceSub, List.replicate_succ, List.replicate_zero, List.cons_append, List.nil_append]
  refine AW.regl false [2] (by rfl) fun K1 hK1 => ?_ -- region 0
  simp only [go_sem, Nat.reduceAdd, Nat.reduceEqDiff, Nat.reduceLeDiff, true_and, List.length_map, len_row, ba_beqL]
  refine hK1 _ _ ?_; try clear hK1 K1
  conv => enter [5]; simp only [setL_cons, setL_nil, List.set_cons_zero, List.set_cons_succ]
  refine AW.regl false [3] (by rfl) fun K2 hK2 => ?_ -- region 1
  simp only [go_sem, Nat.reduceAdd, Nat.reduceEqDiff, Nat.reduceLeDiff, true_and, List.length_map, len_row, ba_beqL]
  refine sC.of en71 (words_calls.on _).here (by rfl) ?_
  simp only [go_sem, Nat.reduceAdd, Nat.reduceEqDiff, Nat.reduceLeDiff, true_and, List.length_map, len_row, ba_beqL]
  refine hK2 _ _ ?_; try clear hK2 K2
  conv => enter [5]; simp only [setL_cons, setL_nil, List.set_cons_zero, List.set_cons_succ]
  refine AW.seq_k fun K3 hK3 => ?_
  refine AW.regl false [4] (by rfl) fun K4 hK4 => ?_ -- region 2
  simp only [go_sem, Nat.reduceAdd, Nat.reduceEqDiff, Nat.reduceLeDiff, true_and, List.length_map, len_row, ba_beqL]
  refine hK4 _ _ ?_; try clear hK4 K4
  conv => enter [5]; simp only [setL_cons, setL_nil, List.set_cons_zero, List.set_cons_succ]
  refine AW.block ?_
  refine AW.loop_wk (α := Nat) (fun i => [(.val (.string s)), .any, .any, (rowAV 1 false (words.map str)), (.val (.int .i64 ((i : Nat) : Int))), .any, .any, .any, .any, .any, .any, .any, .any, .any, .any, .any, .any, .any]) (fun i => σ) (fun i => words.length - i) (fun i => i ≤ words.length ∧ findS (words.take i) s = none) 0 ?_ ?_
  · exact ⟨⟨Nat.zero_le _, rfl⟩, by simp [Wk], rfl⟩
  · rintro i ⟨hi, hit⟩
    refine AW.seq_k fun K5 hK5 => ?_
    refine AW.regl false [9] (by rfl) fun K6 hK6 => ?_ -- region 3
    simp only [go_sem, Nat.reduceAdd, Nat.reduceEqDiff, Nat.reduceLeDiff, true_and, List.length_map, len_row, ba_beqL]
    refine hK6 _ _ ?_; try clear hK6 K6
    conv => enter [5]; simp only [setL_cons, setL_nil, List.set_cons_zero, List.set_cons_succ]
    refine AW.cond rfl (fun hc9 => ?_) (fun hc9 => ?_)
    · skip
      have hi1 : i < words.length := by simpa using hc9
      have hx : (words.map str)[i]? = some (.val (.string (words[i]))) := by rw [List.getElem?_map, List.getElem?_eq_getElem hi1]; rfl
      refine AW.skip ?_
      refine hK5 _ _ ?_; try clear hK5 K5
      refine AW.seq_k fun K7 hK7 => ?_
      refine AW.block ?_
      refine AW.regl false [17] (by rfl) fun K8 hK8 => ?_ -- region 5
      simp only [go_sem, Nat.reduceAdd, Nat.reduceEqDiff, Nat.reduceLeDiff, true_and, List.length_map, len_row, ba_beqL, at_row hx]
      refine hK8 _ _ ?_; try clear hK8 K8
      conv => enter [5]; simp only [setL_cons, setL_nil, List.set_cons_zero, List.set_cons_succ]
      refine AW.cond rfl (fun hc17 => ?_) (fun hc17 => ?_)
      · skip
        have heq : words[i] = s := by simpa using hc17
        refine AW.regl false [2] (by rfl) fun K9 hK9 => ?_ -- region 6
        simp only [go_sem, Nat.reduceAdd, Nat.reduceEqDiff, Nat.reduceLeDiff, true_and, List.length_map, len_row, ba_beqL]
        refine hK9 _ _ ?_; try clear hK9 K9
        conv => enter [5]; simp only [setL_cons, setL_nil, List.set_cons_zero, List.set_cons_succ]
        refine AW.ret ⟨.inr rfl, _, rfl, by simp, ?_⟩ -- return 1
        refine frzB ?_
        rw [wordM, ← heq]
        exact (findS_mem hi1).symm
      · skip
        have hne : ¬ words[i] = s := by simpa using hc17
        refine AW.skip ?_
        refine hK7 _ _ ?_; try clear hK7 K7
        refine AW.lastl false [4] (by rfl) fun K hK => ?_ -- region 4
        simp only [go_sem, Nat.reduceAdd, Nat.reduceEqDiff, Nat.reduceLeDiff, true_and, List.length_map, len_row, ba_beqL]
        refine hK _ _ fun env' hw => ?_
        simp only [setL_cons, setL_nil, List.set_cons_zero, List.set_cons_succ] at hw
        refine ⟨i + 1, by omega, ⟨by omega, findS_take hi1 hit (fun e => hne e.symm)⟩, ?_, rfl⟩
        refine hw.trans ?_
        simp [Wk, wrap_succ hi1 (by decide)]
        try omega
    · skip
      have hi1 : i = words.length := by
        have : ¬ i < words.length := by simpa using hc9
        omega
      refine AW.exit ?_
      refine hK3 _ _ ?_; try clear hK3 K3
      refine AW.regl false [2] (by rfl) fun K10 hK10 => ?_ -- region 7
      simp only [go_sem, Nat.reduceAdd, Nat.reduceEqDiff, Nat.reduceLeDiff, true_and, List.length_map, len_row, ba_beqL]
      refine hK10 _ _ ?_; try clear hK10 K10
      conv => enter [5]; simp only [setL_cons, setL_nil, List.set_cons_zero, List.set_cons_succ]
      refine AW.ret ⟨.inr rfl, _, rfl, by simp, ?_⟩ -- return 2
      refine frzB ?_
      rw [wordM]
      rw [hi1, List.take_length] at hit
      rw [hit]
      rfl

set_option maxRecDepth 100000 in
theorem name_calls (hΓ : Words Γ) (s : ByteArray) (hs : s.size ≤ 1000000000) : APure prog Γ 49 [.val (.string s)] (.val (.bool (nameM s))) := by
  refine APure.of func49 rfl fun σ => ?_
  simp only [ntmps49, List.length_cons, List.length_nil, Nat.reduceAdd, Nat.reduceSub, List.replicate_succ, List.replicate_zero, List.cons_append, List.nil_append]
  refine AW.regl false [2] (by rfl) fun K1 hK1 => ?_ -- region 0
  simp only [go_sem, Nat.reduceAdd, Nat.reduceEqDiff, Nat.reduceLeDiff, true_and, List.length_map, len_row, ba_beqL, byteAV]
  refine hK1 _ _ ?_; try clear hK1 K1
  conv => enter [5]; simp only [setL_cons, setL_nil, List.set_cons_zero, List.set_cons_succ]
  refine AW.seq_k fun K2 hK2 => ?_
  refine AW.regtf false 16 (.val (.bool (((decide (s = ⟨#[]⟩)) || (decide (((s.size : Nat) : Int) > 60))) || (wordM s)))) (by rfl) ?_ ?_ -- region 1
  · skip
    cases h7 : ((decide (s = ⟨#[]⟩)))
    · skip
      cases h11 : ((decide (((s.size : Nat) : Int) > 60)))
      · skip
        simp only [go_sem, Nat.reduceAdd, Nat.reduceEqDiff, Nat.reduceLeDiff, true_and, List.length_map, len_row, ba_beqL, byteAV, h7, h11]
        refine sC.of en65 ((word_calls hΓ s).on _).here (by rfl) ?_
        simp only [go_sem, Nat.reduceAdd, Nat.reduceEqDiff, Nat.reduceLeDiff, true_and, List.length_map, len_row, ba_beqL, byteAV, h7, h11]
        try simp [upd_at, h7, h11, List.length_map, len_row, ba_beqL, byteAV]
      · skip
        simp only [go_sem, Nat.reduceAdd, Nat.reduceEqDiff, Nat.reduceLeDiff, true_and, List.length_map, len_row, ba_beqL, byteAV, h7, h11]
        try simp [upd_at, h7, h11, List.length_map, len_row, ba_beqL, byteAV]
    · skip
      simp only [go_sem, Nat.reduceAdd, Nat.reduceEqDiff, Nat.reduceLeDiff, true_and, List.length_map, len_row, ba_beqL, byteAV, h7]
      try simp [upd_at, h7, List.length_map, len_row, ba_beqL, byteAV]
  conv => enter [5]; simp only [List.set_cons_zero, List.set_cons_succ]
  refine AW.cond rfl (fun hc16 => ?_) (fun hc16 => ?_)
  · skip
    refine AW.regl false [2] (by rfl) fun K4 hK4 => ?_ -- region 2
    simp only [go_sem, Nat.reduceAdd, Nat.reduceEqDiff, Nat.reduceLeDiff, true_and, List.length_map, len_row, ba_beqL, byteAV]
    refine hK4 _ _ ?_; try clear hK4 K4
    conv => enter [5]; simp only [setL_cons, setL_nil, List.set_cons_zero, List.set_cons_succ]
    refine AW.ret ⟨.inr rfl, _, rfl, by simp, ?_⟩ -- return 1
    refine frzB ?_
    rw [nameM, hc16]
    rfl
  · skip
    refine AW.skip ?_
    refine hK2 _ _ ?_; try clear hK2 K2
    refine AW.seq_k fun K5 hK5 => ?_
    have hcv := fun σ => cvb9_55 σ s (by omega)
    refine AW.regl false [18, 19, 20] (by rfl) fun K6 hK6 => ?_ -- region 3
    simp only [go_sem, Nat.reduceAdd, Nat.reduceEqDiff, Nat.reduceLeDiff, true_and, List.length_map, len_row, ba_beqL, byteAV, hcv]
    refine hK6 _ _ ?_; try clear hK6 K6
    conv => enter [5]; simp only [setL_cons, setL_nil, List.set_cons_zero, List.set_cons_succ]
    refine AW.block ?_
    refine AW.loop_wk (α := Nat) (fun i => [.any, .any, .any, .any, .any, .any, .any, .any, .any, .any, .any, .any, .any, .any, .any, .any, .any, .any, (rowAV 1 false (s.data.toList.map byteAV)), (.val (.int .i64 ((s.data.toList.length : Nat) : Int))), (.val (.int .i64 ((i : Nat) : Int))), .any, .any, .any, .any, .any, .any, .any, .any, .any, .any, .any, .any, .any, .any, .any, .any, .any, .any, .any, .any, .any, .any, .any, .any, .any, .any, .any, .any, .any, .any, .any, .any, .any, .any, .any, .any, .any]) (fun i => σ) (fun i => s.data.toList.length - i) (fun i => i ≤ s.data.toList.length ∧ okFrom 0 s.data.toList = okFrom i (s.data.toList.drop i)) 0 ?_ ?_
    · exact ⟨⟨Nat.zero_le _, rfl⟩, by simp [Wk], rfl⟩
    · rintro i ⟨hi, hit⟩
      refine AW.regl false [21] (by rfl) fun K7 hK7 => ?_ -- region 4
      simp only [go_sem, Nat.reduceAdd, Nat.reduceEqDiff, Nat.reduceLeDiff, true_and, List.length_map, len_row, ba_beqL, byteAV]
      refine hK7 _ _ ?_; try clear hK7 K7
      conv => enter [5]; simp only [setL_cons, setL_nil, List.set_cons_zero, List.set_cons_succ]
      refine AW.seq_k fun K8 hK8 => ?_
      refine AW.cond rfl (fun hc21 => ?_) (fun hc21 => ?_)
      · skip
        have hi1 : i < s.data.toList.length := by simpa using hc21
        obtain ⟨b, hb⟩ : ∃ z, z = s.data.toList[i] := ⟨_, rfl⟩
        have hx : (s.data.toList.map byteAV)[i]? = some (byteAV b) := by rw [hb, List.getElem?_map, List.getElem?_eq_getElem hi1]; rfl
        refine AW.skip ?_
        refine hK8 _ _ ?_; try clear hK8 K8
        refine AW.seq_k fun K9 hK9 => ?_
        refine AW.block ?_
        refine AW.regl false [3, 4] (by rfl) fun K10 hK10 => ?_ -- region 5
        simp only [go_sem, Nat.reduceAdd, Nat.reduceEqDiff, Nat.reduceLeDiff, true_and, List.length_map, len_row, ba_beqL, byteAV, at_row hx]
        refine hK10 _ _ ?_; try clear hK10 K10
        conv => enter [5]; simp only [setL_cons, setL_nil, List.set_cons_zero, List.set_cons_succ]
        refine AW.regtf false 5 (.val (.bool (letter b))) (by rfl) ?_ ?_ -- region 6
        · skip
          cases h26 : ((decide (((b.toNat : Nat) : Int) ≥ 97)))
          · skip
            cases h33 : ((decide (((b.toNat : Nat) : Int) ≥ 65)))
            · skip
              simp only [go_sem, Nat.reduceAdd, Nat.reduceEqDiff, Nat.reduceLeDiff, true_and, List.length_map, len_row, ba_beqL, byteAV, letter, h26, h33]
              try simp [upd_at, h26, h33, List.length_map, len_row, ba_beqL, byteAV, letter]
            · skip
              cases h36 : ((decide (((b.toNat : Nat) : Int) ≤ 90)))
              · skip
                simp only [go_sem, Nat.reduceAdd, Nat.reduceEqDiff, Nat.reduceLeDiff, true_and, List.length_map, len_row, ba_beqL, byteAV, letter, h26, h33, h36]
                try simp [upd_at, h26, h33, h36, List.length_map, len_row, ba_beqL, byteAV, letter]
              · skip
                simp only [go_sem, Nat.reduceAdd, Nat.reduceEqDiff, Nat.reduceLeDiff, true_and, List.length_map, len_row, ba_beqL, byteAV, letter, h26, h33, h36]
                try simp [upd_at, h26, h33, h36, List.length_map, len_row, ba_beqL, byteAV, letter]
          · skip
            cases h29 : ((decide (((b.toNat : Nat) : Int) ≤ 122)))
            · skip
              cases h33 : ((decide (((b.toNat : Nat) : Int) ≥ 65)))
              · skip
                simp only [go_sem, Nat.reduceAdd, Nat.reduceEqDiff, Nat.reduceLeDiff, true_and, List.length_map, len_row, ba_beqL, byteAV, letter, h26, h29, h33]
                try simp [upd_at, h26, h29, h33, List.length_map, len_row, ba_beqL, byteAV, letter]
              · skip
                cases h36 : ((decide (((b.toNat : Nat) : Int) ≤ 90)))
                · skip
                  simp only [go_sem, Nat.reduceAdd, Nat.reduceEqDiff, Nat.reduceLeDiff, true_and, List.length_map, len_row, ba_beqL, byteAV, letter, h26, h29, h33, h36]
                  try simp [upd_at, h26, h29, h33, h36, List.length_map, len_row, ba_beqL, byteAV, letter]
                · skip
                  simp only [go_sem, Nat.reduceAdd, Nat.reduceEqDiff, Nat.reduceLeDiff, true_and, List.length_map, len_row, ba_beqL, byteAV, letter, h26, h29, h33, h36]
                  try simp [upd_at, h26, h29, h33, h36, List.length_map, len_row, ba_beqL, byteAV, letter]
            · skip
              simp only [go_sem, Nat.reduceAdd, Nat.reduceEqDiff, Nat.reduceLeDiff, true_and, List.length_map, len_row, ba_beqL, byteAV, letter, h26, h29]
              try simp [upd_at, h26, h29, List.length_map, len_row, ba_beqL, byteAV, letter]
        conv => enter [5]; simp only [List.set_cons_zero, List.set_cons_succ]
        refine AW.regtf false 56 (.val (.bool (!(letter b) && ((decide (i = 0) || !digit b))))) (by rfl) ?_ ?_ -- region 7
        · skip
          cases h5 : ((letter b))
          · skip
            cases h47 : ((((i : Nat) : Int) == 0))
            · skip
              cases h50 : ((decide (((b.toNat : Nat) : Int) < 48)))
              · skip
                simp only [go_sem, Nat.reduceAdd, Nat.reduceEqDiff, Nat.reduceLeDiff, true_and, List.length_map, len_row, ba_beqL, byteAV, digit, h5, h47, h50]
                try simp [upd_at, h5, h47, h50, List.length_map, len_row, ba_beqL, byteAV, digit]
                all_goals try (simp at *)
                all_goals try omega
                all_goals try (simp [show ¬ (i = 0) by omega])
                all_goals try omega
                all_goals try (rw [Bool.eq_iff_iff]; simp; omega)
              · skip
                simp only [go_sem, Nat.reduceAdd, Nat.reduceEqDiff, Nat.reduceLeDiff, true_and, List.length_map, len_row, ba_beqL, byteAV, digit, h5, h47, h50]
                try simp [upd_at, h5, h47, h50, List.length_map, len_row, ba_beqL, byteAV, digit]
                all_goals try (simp at *)
                all_goals try omega
                all_goals try (simp [show ¬ (i = 0) by omega])
                all_goals try omega
                all_goals try (rw [Bool.eq_iff_iff]; simp; omega)
            · skip
              simp only [go_sem, Nat.reduceAdd, Nat.reduceEqDiff, Nat.reduceLeDiff, true_and, List.length_map, len_row, ba_beqL, byteAV, digit, h5, h47]
              try simp [upd_at, h5, h47, List.length_map, len_row, ba_beqL, byteAV, digit]
              all_goals try (simp at *)
              all_goals try omega
              all_goals try (simp [show ¬ (i = 0) by omega])
              all_goals try omega
              all_goals try (rw [Bool.eq_iff_iff]; simp; omega)
          · skip
            simp only [go_sem, Nat.reduceAdd, Nat.reduceEqDiff, Nat.reduceLeDiff, true_and, List.length_map, len_row, ba_beqL, byteAV, digit, h5]
            try simp [upd_at, h5, List.length_map, len_row, ba_beqL, byteAV, digit]
            all_goals try (simp at *)
            all_goals try omega
            all_goals try (simp [show ¬ (i = 0) by omega])
            all_goals try omega
            all_goals try (rw [Bool.eq_iff_iff]; simp; omega)
        conv => enter [5]; simp only [List.set_cons_zero, List.set_cons_succ]
        refine AW.cond rfl (fun hc56 => ?_) (fun hc56 => ?_)
        · skip
          have hok : (letter b || (decide (0 < i) && digit b)) = false := by
            cases h1 : letter b <;> cases h2 : digit b <;> simp [h1, h2] at hc56 ⊢ <;> omega
          refine AW.regl false [2] (by rfl) fun K13 hK13 => ?_ -- region 8
          simp only [go_sem, Nat.reduceAdd, Nat.reduceEqDiff, Nat.reduceLeDiff, true_and, List.length_map, len_row, ba_beqL, byteAV]
          refine hK13 _ _ ?_; try clear hK13 K13
          conv => enter [5]; simp only [setL_cons, setL_nil, List.set_cons_zero, List.set_cons_succ]
          refine AW.ret ⟨.inr rfl, _, rfl, by simp, ?_⟩ -- return 2
          refine frzB ?_
          rw [nameM, hit, okFrom_drop hi1, ← hb, hok]
          simp
        · skip
          have hok : (letter b || (decide (0 < i) && digit b)) = true := by
            cases h1 : letter b <;> cases h2 : digit b <;> simp [h1, h2] at hc56 ⊢ <;> omega
          refine AW.skip ?_
          refine hK9 _ _ ?_; try clear hK9 K9
          refine AW.lastl false [20] (by rfl) fun K hK => ?_ -- region 9
          simp only [go_sem, Nat.reduceAdd, Nat.reduceEqDiff, Nat.reduceLeDiff, true_and, List.length_map, len_row, ba_beqL, byteAV]
          refine hK _ _ fun env' hw => ?_
          simp only [setL_cons, setL_nil, List.set_cons_zero, List.set_cons_succ] at hw
          refine ⟨i + 1, by omega, ⟨by omega, by rw [hit, okFrom_drop hi1, ← hb, hok]; rfl⟩, ?_, rfl⟩
          refine hw.trans ?_
          simp [Wk, wrap_succ hi1 (by rw [maxLen_eq, ba_len]; omega)]
          try omega
      · skip
        have hi1 : i = s.data.toList.length := by
          have : ¬ i < s.data.toList.length := by simpa using hc21
          omega
        refine AW.exit ?_
        refine hK5 _ _ ?_; try clear hK5 K5
        refine AW.regl false [2] (by rfl) fun K14 hK14 => ?_ -- region 10
        simp only [go_sem, Nat.reduceAdd, Nat.reduceEqDiff, Nat.reduceLeDiff, true_and, List.length_map, len_row, ba_beqL, byteAV]
        refine hK14 _ _ ?_; try clear hK14 K14
        conv => enter [5]; simp only [setL_cons, setL_nil, List.set_cons_zero, List.set_cons_succ]
        refine AW.ret ⟨.inr rfl, _, rfl, by simp, ?_⟩ -- return 3
        refine frzB ?_
        rw [nameM, hit, hi1, List.drop_length, hc16]
        rfl

set_option maxRecDepth 100000 in
theorem rname_calls (s : ByteArray) (hs : s.size ≤ 1000000000) : APure prog Γ 37 [.val (.string s)] (.val (.bool (nameM s))) := by
  refine APure.of func37 rfl fun σ => ?_
  simp only [ntmps37, List.length_cons, List.length_nil, Nat.reduceAdd, Nat.reduceSub, List.replicate_succ, List.replicate_zero, List.cons_append, List.nil_append]
  refine AW.regl false [2] (by rfl) fun K1 hK1 => ?_ -- region 0
  simp only [go_sem, Nat.reduceAdd, Nat.reduceEqDiff, Nat.reduceLeDiff, true_and, ba_beqL]
  refine hK1 _ _ ?_; try clear hK1 K1
  conv => enter [5]; simp only [setL_cons, setL_nil, List.set_cons_zero, List.set_cons_succ]
  refine AW.seq_k fun K2 hK2 => ?_
  refine AW.regl false [3] (by rfl) fun K3 hK3 => ?_ -- region 1
  simp only [go_sem, Nat.reduceAdd, Nat.reduceEqDiff, Nat.reduceLeDiff, true_and, ba_beqL]
  refine hK3 _ _ ?_; try clear hK3 K3
  conv => enter [5]; simp only [setL_cons, setL_nil, List.set_cons_zero, List.set_cons_succ]
  refine AW.block ?_
  refine AW.loop_wk (α := Nat) (fun i => [(.val (.string s)), .any, .any, (.val (.int .i64 ((i : Nat) : Int))), .any, .any, .any, .any, .any, .any, .any, .any, .any, .any, .any, .any, .any, .any, .any, .any, .any, .any, .any, .any, .any, .any, .any, .any, .any, .any, .any, .any, .any, .any, .any, .any, .any, .any, .any]) (fun i => σ) (fun i => s.size - i) (fun i => i ≤ s.size ∧ okFrom 0 s.data.toList = okFrom i (s.data.toList.drop i)) 0 ?_ ?_
  · exact ⟨⟨Nat.zero_le _, rfl⟩, by simp [Wk], rfl⟩
  · rintro i ⟨hi, hit⟩
    refine AW.seq_k fun K4 hK4 => ?_
    refine AW.regl false [7] (by rfl) fun K5 hK5 => ?_ -- region 2
    simp only [go_sem, Nat.reduceAdd, Nat.reduceEqDiff, Nat.reduceLeDiff, true_and, ba_beqL]
    refine hK5 _ _ ?_; try clear hK5 K5
    conv => enter [5]; simp only [setL_cons, setL_nil, List.set_cons_zero, List.set_cons_succ]
    refine AW.cond rfl (fun hc7 => ?_) (fun hc7 => ?_)
    · skip
      have hi1 : i < s.size := by simpa using hc7
      obtain ⟨b, hb⟩ : ∃ z, z = s.data.toList[i]'hi1 := ⟨_, rfl⟩
      have hx : ∀ k : IntKind, aIndex prog 9 (str s) (.val (.int k i)) = some (.val (.int .u8 b.toNat)) := fun k => by rw [index_str tyStr9 s k i hi1, hb, ba_get s hi1]
      refine AW.skip ?_
      refine hK4 _ _ ?_; try clear hK4 K4
      refine AW.seq_k fun K6 hK6 => ?_
      refine AW.block ?_
      refine AW.regtf false 25 (.val (.bool (!(letter b || (decide (0 < i) && digit b))))) (by rfl) ?_ ?_ -- region 4
      · skip
        cases h13 : ((letter b))
        · skip
          cases h17 : ((decide (((i : Nat) : Int) > 0)))
          · skip
            simp only [go_sem, Nat.reduceAdd, Nat.reduceEqDiff, Nat.reduceLeDiff, true_and, ba_beqL, hx, h13, h17]
            refine sC.of en55 ((letter_calls b).on _).here (by rfl) ?_
            simp only [go_sem, Nat.reduceAdd, Nat.reduceEqDiff, Nat.reduceLeDiff, true_and, ba_beqL, hx, h13, h17]
            try simp [upd_at, h13, h17, ba_beqL, hx]
            all_goals try (simp_all <;> omega)
          · skip
            simp only [go_sem, Nat.reduceAdd, Nat.reduceEqDiff, Nat.reduceLeDiff, true_and, ba_beqL, hx, h13, h17]
            refine sC.of en55 ((letter_calls b).on _).here (by rfl) ?_
            simp only [go_sem, Nat.reduceAdd, Nat.reduceEqDiff, Nat.reduceLeDiff, true_and, ba_beqL, hx, h13, h17]
            refine sC.of en56 ((digit_calls b).on _).here (by rfl) ?_
            simp only [go_sem, Nat.reduceAdd, Nat.reduceEqDiff, Nat.reduceLeDiff, true_and, ba_beqL, hx, h13, h17]
            try simp [upd_at, h13, h17, ba_beqL, hx]
            all_goals try (simp_all <;> omega)
        · skip
          simp only [go_sem, Nat.reduceAdd, Nat.reduceEqDiff, Nat.reduceLeDiff, true_and, ba_beqL, hx, h13]
          refine sC.of en55 ((letter_calls b).on _).here (by rfl) ?_
          simp only [go_sem, Nat.reduceAdd, Nat.reduceEqDiff, Nat.reduceLeDiff, true_and, ba_beqL, hx, h13]
          try simp [upd_at, h13, ba_beqL, hx]
          all_goals try (simp_all <;> omega)
      conv => enter [5]; simp only [List.set_cons_zero, List.set_cons_succ]
      refine AW.cond rfl (fun hc25 => ?_) (fun hc25 => ?_)
      · skip
        have hok : (letter b || (decide (0 < i) && digit b)) = false := by cases h1 : letter b <;> cases h2 : digit b <;> simp [h1, h2] at hc25 ⊢ <;> omega
        refine AW.regl false [2] (by rfl) fun K8 hK8 => ?_ -- region 5
        simp only [go_sem, Nat.reduceAdd, Nat.reduceEqDiff, Nat.reduceLeDiff, true_and, ba_beqL]
        refine hK8 _ _ ?_; try clear hK8 K8
        conv => enter [5]; simp only [setL_cons, setL_nil, List.set_cons_zero, List.set_cons_succ]
        refine AW.ret ⟨.inr rfl, _, rfl, by simp, ?_⟩ -- return 1
        refine frzB ?_
        rw [nameM, hit, okFrom_drop hi1, ← hb, hok]
        simp
      · skip
        have hok : (letter b || (decide (0 < i) && digit b)) = true := by cases h1 : letter b <;> cases h2 : digit b <;> simp [h1, h2] at hc25 ⊢ <;> omega
        refine AW.skip ?_
        refine hK6 _ _ ?_; try clear hK6 K6
        refine AW.lastl false [3] (by rfl) fun K hK => ?_ -- region 3
        simp only [go_sem, Nat.reduceAdd, Nat.reduceEqDiff, Nat.reduceLeDiff, true_and, ba_beqL]
        refine hK _ _ fun env' hw => ?_
        simp only [setL_cons, setL_nil, List.set_cons_zero, List.set_cons_succ] at hw
        refine ⟨i + 1, by omega, ⟨by omega, by rw [hit, okFrom_drop hi1, ← hb, hok]; rfl⟩, ?_, rfl⟩
        refine hw.trans ?_
        simp [Wk, wrap_succ hi1 (by rw [maxLen_eq]; omega)]
        try omega
    · skip
      have hi1 : i = s.size := by
        have : ¬ i < s.size := by simpa using hc7
        omega
      refine AW.exit ?_
      refine hK2 _ _ ?_; try clear hK2 K2
      refine AW.regtf false 2 (.val (.bool (((decide (((s.size : Nat) : Int) ≥ 1)) && (decide (((s.size : Nat) : Int) ≤ 60))) && !((wordM s))))) (by rfl) ?_ ?_ -- region 6
      · skip
        cases h28 : ((decide (((s.size : Nat) : Int) ≥ 1)))
        · skip
          simp only [go_sem, Nat.reduceAdd, Nat.reduceEqDiff, Nat.reduceLeDiff, true_and, ba_beqL, h28]
          try simp [upd_at, h28, ba_beqL]
        · skip
          cases h32 : ((decide (((s.size : Nat) : Int) ≤ 60)))
          · skip
            simp only [go_sem, Nat.reduceAdd, Nat.reduceEqDiff, Nat.reduceLeDiff, true_and, ba_beqL, h28, h32]
            try simp [upd_at, h28, h32, ba_beqL]
          · skip
            simp only [go_sem, Nat.reduceAdd, Nat.reduceEqDiff, Nat.reduceLeDiff, true_and, ba_beqL, h28, h32]
            refine sC.of en57 ((rword_calls s).on _).here (by rfl) ?_
            simp only [go_sem, Nat.reduceAdd, Nat.reduceEqDiff, Nat.reduceLeDiff, true_and, ba_beqL, h28, h32]
            try simp [upd_at, h28, h32, ba_beqL]
      conv => enter [5]; simp only [List.set_cons_zero, List.set_cons_succ]
      refine AW.ret ⟨.inr rfl, _, rfl, by simp, ?_⟩ -- return 2
      refine frzB ?_
      rw [nameM, hit, hi1, List.drop_of_length_le (by rw [ba_len]; exact Nat.le_refl _)]
      by_cases h0 : s = ⟨#[]⟩
      · subst h0; rfl
      · have h1 : 1 ≤ s.size := by
          rcases Nat.eq_zero_or_pos s.size with h | h
          · exact absurd (ByteArray.ext (by simpa using Array.eq_empty_of_size_eq_zero h)) h0
          · exact h
        have h1 : (1 : Int) ≤ s.size := by omega
        simp only [okFrom, h0, h1, decide_true, decide_false, Bool.true_and, Bool.false_or, Bool.and_true]
        rw [Bool.eq_iff_iff]
        simp
end A
end Go.Proofs.Tryd
/-! Expressions: what the functions come to. -/
namespace Go.Proofs.Tryd
set_option linter.unusedSimpArgs false
set_option linter.unusedVariables false
open Go Go.Proofs.Ev
namespace A
variable {Γ : List (Nat × List AV)}
def single (k o n : Int) (s : ByteArray) (c : Int) : Bool :=
  if k == 0 then ((decide (n ≥ 0) && decide (s = ⟨#[]⟩)) && (o == 0)) && (c == 0)
  else if k == 1 then (((decide (n ≥ 0) && decide (n ≤ 1)) && decide (s = ⟨#[]⟩)) && (o == 0)) && (c == 0)
  else if k == 2 then ((nameM s && (n == 0)) && (o == 0)) && (c == 0)
  else if k == 3 then ((((n == 0) && decide (s = ⟨#[]⟩)) && decide (o ≥ 0)) && decide (o ≤ 2)) && (c == 1)
  else if k == 4 then ((((n == 0) && decide (s = ⟨#[]⟩)) && decide (o ≥ 0)) && decide (o ≤ 15)) && (c == 2)
  else if k == 5 then (((n == 0) && decide (s = ⟨#[]⟩)) && (o == 0)) && (c == 3)
  else if k == 6 then ((nameM s && (n == 0)) && (o == 0)) && decide (c ≤ 1000)
  else false
def E.single : E → Bool
  | .mk k o n s _ l => A.single k o n s l.length
mutual
def E.shape : E → Bool
  | .mk k o n s _ l => shapeL l && A.single k o n s l.length
def shapeL : List E → Bool
  | [] => true
  | e :: l => e.shape && shapeL l
end
theorem shapeL_all : ∀ l : List E, shapeL l = l.all E.shape
  | [] => rfl
  | e :: l => by rw [shapeL, shapeL_all l]; rfl
/-- Each name in it is short enough to be told. -/
def E.fit : E → Prop
  | .mk _ _ _ s _ _ => s.size ≤ 1000000000
def E.fits (e : E) : Prop := ∀ d ∈ e.pre, d.fit
def rtoo (k o n : Int) (s : ByteArray) : Bool := (((((decide (k > 1) && (n != 0)) || (((k != 2) && (k != 6)) && !decide (s = ⟨#[]⟩))) || (((k != 3) && (k != 4)) && (o != 0))) || decide (o < 0)) || decide (n < 0))
theorem single_too {k o n : Int} {s : ByteArray} {c : Int} (h : rtoo k o n s = true) : A.single k o n s c = false := by
  cases hS : A.single k o n s c with
  | false => rfl
  | true =>
    exfalso
    unfold A.single at hS
    unfold rtoo at h
    simp only [Bool.or_eq_true, Bool.and_eq_true, decide_eq_true_eq, bne_iff_ne, Bool.not_eq_true', decide_eq_false_iff_not, beq_iff_eq] at h
    by_cases hs : s = ⟨#[]⟩
    · have h' : (k > 1 ∧ n ≠ 0) ∨ ((k ≠ 3 ∧ k ≠ 4) ∧ o ≠ 0) ∨ o < 0 ∨ n < 0 := by simpa [hs, or_assoc] using h
      clear h
      generalize nameM s = b at hS
      repeat' split at hS
      all_goals simp only [Bool.and_eq_true, decide_eq_true_eq, beq_iff_eq, Bool.false_eq_true] at *
      all_goals omega
    · have h' : (k > 1 ∧ n ≠ 0) ∨ (k ≠ 2 ∧ k ≠ 6) ∨ ((k ≠ 3 ∧ k ≠ 4) ∧ o ≠ 0) ∨ o < 0 ∨ n < 0 := by simpa [hs, or_assoc] using h
      clear h
      simp only [hs, decide_false, Bool.and_false, Bool.false_and] at hS
      generalize nameM s = b at hS
      repeat' split at hS
      all_goals simp only [Bool.and_eq_true, decide_eq_true_eq, beq_iff_eq, Bool.false_eq_true] at *
      all_goals omega
theorem row_bel5 (n : Nat) (nl : Bool) (l : List E) : (rowAV 5 nl (l.map E.enc)).bel n = true := by
  cases l with
  | nil => cases nl <;> rfl
  | cons a l => exact belL_map E.enc (a :: l) fun e _ => enc_bel n e
set_option maxRecDepth 100000 in
theorem size_step (k o n : Int) (s : ByteArray) (nl : Bool) (l : List E) (hz : 1 + sizeL l < 9223372036854775808) (ih : ∀ e ∈ l, APure prog Γ 5 [e.enc] (i64 (e.size : Nat))) : APure prog Γ 5 [(E.mk k o n s nl l).enc] (i64 ((E.mk k o n s nl l).size : Nat)) := by
  refine APure.of func5 rfl fun σ => ?_
  simp only [ntmps5, List.length_cons, List.length_nil, Nat.reduceAdd, Nat.reduceSub, List.replicate_succ, List.replicate_zero, List.cons_append, List.nil_append]
  have hl : l.length ≤ maxLen := by have := length_sizeL l; rw [maxLen_eq]; omega
  rw [E.enc_mk]
  refine AW.regl false [1, 2] (by rfl) fun K1 hK1 => ?_ -- region 0
  simp only [go_sem, Nat.reduceAdd, Nat.reduceEqDiff, Nat.reduceLeDiff, true_and, List.length_map, len_row, one_row, E.enc_mk]
  refine hK1 _ _ ?_; try clear hK1 K1
  conv => enter [5]; simp only [setL_cons, setL_nil, List.set_cons_zero, List.set_cons_succ]
  refine AW.regl false [3] (by rfl) fun K2 hK2 => ?_ -- region 1
  simp only [go_sem, Nat.reduceAdd, Nat.reduceEqDiff, Nat.reduceLeDiff, true_and, List.length_map, len_row, one_row, E.enc_mk]
  refine hK2 _ _ ?_; try clear hK2 K2
  conv => enter [5]; simp only [setL_cons, setL_nil, List.set_cons_zero, List.set_cons_succ]
  refine AW.seq_k fun K3 hK3 => ?_
  refine AW.regl false [4] (by rfl) fun K4 hK4 => ?_ -- region 2
  simp only [go_sem, Nat.reduceAdd, Nat.reduceEqDiff, Nat.reduceLeDiff, true_and, List.length_map, len_row, one_row, E.enc_mk]
  refine hK4 _ _ ?_; try clear hK4 K4
  conv => enter [5]; simp only [setL_cons, setL_nil, List.set_cons_zero, List.set_cons_succ]
  refine AW.block ?_
  refine AW.loop_wk (α := Nat) (fun i => [.any, (.ref σ.length 0), .any, (.val (.int .i64 ((1 + sizeL (l.take i) : Nat) : Int))), (.val (.int .i64 ((i : Nat) : Int))), .any, .any, .any, .any, .any, .any, .any, .any, .any, .any, .any, .any, .any, .any, .any, .any]) (fun i => σ ++ [.cells [.val (.int .i64 k), .val (.int .i64 o), .val (.int .i64 n), .val (.string s), rowAV 5 nl (l.map E.enc)]]) (fun i => l.length - i) (fun i => i ≤ l.length) 0 ?_ ?_
  · exact ⟨Nat.zero_le _, by simp [Wk, sizeL], rfl⟩
  · intro i hi
    refine AW.seq_k fun K5 hK5 => ?_
    refine AW.regl false [9] (by rfl) fun K6 hK6 => ?_ -- region 3
    simp only [go_sem, Nat.reduceAdd, Nat.reduceEqDiff, Nat.reduceLeDiff, true_and, List.length_map, len_row, one_row, E.enc_mk]
    refine hK6 _ _ ?_; try clear hK6 K6
    conv => enter [5]; simp only [setL_cons, setL_nil, List.set_cons_zero, List.set_cons_succ]
    refine AW.cond rfl (fun hc9 => ?_) (fun hc9 => ?_)
    · skip
      have hi1 : i < l.length := by simpa using hc9
      have hx : (l.map E.enc)[i]? = some (E.enc (l[i])) := by rw [List.getElem?_map, List.getElem?_eq_getElem hi1]; rfl
      have hw := wrap_add (a := 1 + sizeL (l.take i)) (b := (l[i]).size) (c := 1 + sizeL (l.take (i + 1))) (by rw [sizeL_take hi1]; omega) (by have := sizeL_le (l := l) (i + 1); omega)
      push_cast at hw
      refine AW.skip ?_
      refine hK5 _ _ ?_; try clear hK5 K5
      refine AW.seq_k fun K7 hK7 => ?_
      refine AW.block ?_
      refine AW.lastl false [3] (by rfl) fun K hK => ?_ -- region 5
      simp only [go_sem, Nat.reduceAdd, Nat.reduceEqDiff, Nat.reduceLeDiff, true_and, List.length_map, len_row, one_row, E.enc_mk, at_row hx, enc_get43]
      refine sC.of en5 ((ih _ (mem_at hi1)).on _).here (by rfl) ?_
      simp only [go_sem, Nat.reduceAdd, Nat.reduceEqDiff, Nat.reduceLeDiff, true_and, List.length_map, len_row, one_row, E.enc_mk, at_row hx, enc_get43]
      refine hK _ _ fun env' hw => ?_
      simp only [setL_cons, setL_nil, List.set_cons_zero, List.set_cons_succ] at hw
      refine hK7 _ _ (AW.weaken hw ?_); clear hw; try clear hK7 K7
      refine AW.lastl false [4] (by rfl) fun K hK => ?_ -- region 4
      simp only [go_sem, Nat.reduceAdd, Nat.reduceEqDiff, Nat.reduceLeDiff, true_and, List.length_map, len_row, one_row, E.enc_mk]
      refine hK _ _ fun env' hw => ?_
      simp only [setL_cons, setL_nil, List.set_cons_zero, List.set_cons_succ] at hw
      refine ⟨i + 1, by omega, by omega, ?_, rfl⟩
      refine hw.trans ?_
      simp [Wk, wrap_succ hi1 hl, hw]
      try omega
    · skip
      have hi1 : i = l.length := by
        have : ¬ i < l.length := by simpa using hc9
        omega
      refine AW.exit ?_
      refine hK3 _ _ ?_; try clear hK3 K3
      refine AW.regl false [2] (by rfl) fun K8 hK8 => ?_ -- region 6
      simp only [go_sem, Nat.reduceAdd, Nat.reduceEqDiff, Nat.reduceLeDiff, true_and, List.length_map, len_row, one_row, E.enc_mk]
      refine hK8 _ _ ?_; try clear hK8 K8
      conv => enter [5]; simp only [setL_cons, setL_nil, List.set_cons_zero, List.set_cons_succ]
      refine AW.ret ⟨.inr rfl, _, rfl, by simp, ?_⟩ -- return 1
      rw [hi1, List.take_length]
      exact .keep rfl

set_option maxRecDepth 100000 in
theorem rdepth_step (k o n : Int) (s : ByteArray) (nl : Bool) (l : List E) (hz : 1 + sizeL l < 9223372036854775808) (ih : ∀ e ∈ l, APure prog Γ 22 [e.enc] (i64 (e.depth : Nat))) : APure prog Γ 22 [(E.mk k o n s nl l).enc] (i64 ((E.mk k o n s nl l).depth : Nat)) := by
  refine APure.of func22 rfl fun σ => ?_
  simp only [ntmps22, List.length_cons, List.length_nil, Nat.reduceAdd, Nat.reduceSub, List.replicate_succ, List.replicate_zero, List.cons_append, List.nil_append]
  have hdl : ∀ i, depthL (l.take i) ≤ sizeL l := fun i => by
    have h1 := sizeL_le (l := l) i
    have h2 : ∀ m : List E, depthL m ≤ sizeL m := fun m => by
      have := depth_size (.mk 0 0 0 ⟨#[]⟩ true m)
      simp only [E.depth, E.size] at this
      omega
    exact Nat.le_trans (h2 _) h1
  have hl : l.length ≤ maxLen := by have := length_sizeL l; rw [maxLen_eq]; omega
  rw [E.enc_mk]
  refine AW.regl false [1, 2] (by rfl) fun K1 hK1 => ?_ -- region 0
  simp only [go_sem, Nat.reduceAdd, Nat.reduceEqDiff, Nat.reduceLeDiff, true_and, List.length_map, len_row, one_row, E.enc_mk]
  refine hK1 _ _ ?_; try clear hK1 K1
  conv => enter [5]; simp only [setL_cons, setL_nil, List.set_cons_zero, List.set_cons_succ]
  refine AW.regl false [3] (by rfl) fun K2 hK2 => ?_ -- region 1
  simp only [go_sem, Nat.reduceAdd, Nat.reduceEqDiff, Nat.reduceLeDiff, true_and, List.length_map, len_row, one_row, E.enc_mk]
  refine hK2 _ _ ?_; try clear hK2 K2
  conv => enter [5]; simp only [setL_cons, setL_nil, List.set_cons_zero, List.set_cons_succ]
  refine AW.seq_k fun K3 hK3 => ?_
  refine AW.regl false [4] (by rfl) fun K4 hK4 => ?_ -- region 2
  simp only [go_sem, Nat.reduceAdd, Nat.reduceEqDiff, Nat.reduceLeDiff, true_and, List.length_map, len_row, one_row, E.enc_mk]
  refine hK4 _ _ ?_; try clear hK4 K4
  conv => enter [5]; simp only [setL_cons, setL_nil, List.set_cons_zero, List.set_cons_succ]
  refine AW.block ?_
  refine AW.loop_wk (α := Nat) (fun i => [.any, (.ref σ.length 0), .any, (.val (.int .i64 ((depthL (l.take i) : Nat) : Int))), (.val (.int .i64 ((i : Nat) : Int))), .any, .any, .any, .any, .any, .any, .any, .any, .any, .any, .any, .any, .any, .any, .any, .any, .any, .any, .any, .any]) (fun i => σ ++ [.cells [.val (.int .i64 k), .val (.int .i64 o), .val (.int .i64 n), .val (.string s), rowAV 5 nl (l.map E.enc)]]) (fun i => l.length - i) (fun i => i ≤ l.length) 0 ?_ ?_
  · exact ⟨Nat.zero_le _, by simp [Wk, depthL], rfl⟩
  · intro i hi
    refine AW.seq_k fun K5 hK5 => ?_
    refine AW.regl false [10] (by rfl) fun K6 hK6 => ?_ -- region 3
    simp only [go_sem, Nat.reduceAdd, Nat.reduceEqDiff, Nat.reduceLeDiff, true_and, List.length_map, len_row, one_row, E.enc_mk]
    refine hK6 _ _ ?_; try clear hK6 K6
    conv => enter [5]; simp only [setL_cons, setL_nil, List.set_cons_zero, List.set_cons_succ]
    refine AW.cond rfl (fun hc10 => ?_) (fun hc10 => ?_)
    · skip
      have hi1 : i < l.length := by simpa using hc10
      have hx : (l.map E.enc)[i]? = some (E.enc (l[i])) := by rw [List.getElem?_map, List.getElem?_eq_getElem hi1]; rfl
      refine AW.skip ?_
      refine hK5 _ _ ?_; try clear hK5 K5
      refine AW.seq_k fun K7 hK7 => ?_
      refine AW.block ?_
      refine AW.regl false [5] (by rfl) fun K8 hK8 => ?_ -- region 5
      simp only [go_sem, Nat.reduceAdd, Nat.reduceEqDiff, Nat.reduceLeDiff, true_and, List.length_map, len_row, one_row, E.enc_mk, at_row hx, enc_get43]
      refine sC.of en22 ((ih _ (mem_at hi1)).on _).here (by rfl) ?_
      simp only [go_sem, Nat.reduceAdd, Nat.reduceEqDiff, Nat.reduceLeDiff, true_and, List.length_map, len_row, one_row, E.enc_mk, at_row hx, enc_get43]
      refine hK8 _ _ ?_; try clear hK8 K8
      conv => enter [5]; simp only [setL_cons, setL_nil, List.set_cons_zero, List.set_cons_succ]
      refine AW.regl false [21] (by rfl) fun K9 hK9 => ?_ -- region 6
      simp only [go_sem, Nat.reduceAdd, Nat.reduceEqDiff, Nat.reduceLeDiff, true_and, List.length_map, len_row, one_row, E.enc_mk]
      refine hK9 _ _ ?_; try clear hK9 K9
      conv => enter [5]; simp only [setL_cons, setL_nil, List.set_cons_zero, List.set_cons_succ]
      refine AW.cond rfl (fun hc21 => ?_) (fun hc21 => ?_)
      · skip
        have hd : depthL (l.take (i + 1)) = (l[i]).depth := by
          have : (depthL (l.take i) : Int) < ((l[i]).depth : Int) := by simpa using hc21
          rw [depthL_take hi1]; omega
        refine AW.lastl false [3] (by rfl) fun K hK => ?_ -- region 7
        simp only [go_sem, Nat.reduceAdd, Nat.reduceEqDiff, Nat.reduceLeDiff, true_and, List.length_map, len_row, one_row, E.enc_mk]
        refine hK _ _ fun env' hw => ?_
        simp only [setL_cons, setL_nil, List.set_cons_zero, List.set_cons_succ] at hw
        refine hK7 _ _ (AW.weaken hw ?_); clear hw; try clear hK7 K7
        refine AW.lastl false [4] (by rfl) fun K hK => ?_ -- region 4
        simp only [go_sem, Nat.reduceAdd, Nat.reduceEqDiff, Nat.reduceLeDiff, true_and, List.length_map, len_row, one_row, E.enc_mk]
        refine hK _ _ fun env' hw => ?_
        simp only [setL_cons, setL_nil, List.set_cons_zero, List.set_cons_succ] at hw
        refine ⟨i + 1, by omega, by omega, ?_, rfl⟩
        refine hw.trans ?_
        simp [Wk, wrap_succ hi1 hl, hd]
        try omega
      · skip
        have hd : depthL (l.take (i + 1)) = depthL (l.take i) := by
          have : ¬ (depthL (l.take i) : Int) < ((l[i]).depth : Int) := by simpa using hc21
          rw [depthL_take hi1]; omega
        refine AW.skip ?_
        refine hK7 _ _ ?_; try clear hK7 K7
        refine AW.lastl false [4] (by rfl) fun K hK => ?_ -- region 4
        simp only [go_sem, Nat.reduceAdd, Nat.reduceEqDiff, Nat.reduceLeDiff, true_and, List.length_map, len_row, one_row, E.enc_mk]
        refine hK _ _ fun env' hw => ?_
        simp only [setL_cons, setL_nil, List.set_cons_zero, List.set_cons_succ] at hw
        refine ⟨i + 1, by omega, by omega, ?_, rfl⟩
        refine hw.trans ?_
        simp [Wk, wrap_succ hi1 hl, hd]
        try omega
    · skip
      have hi1 : i = l.length := by
        have : ¬ i < l.length := by simpa using hc10
        omega
      refine AW.exit ?_
      refine hK3 _ _ ?_; try clear hK3 K3
      refine AW.regl false [2] (by rfl) fun K10 hK10 => ?_ -- region 8
      simp only [go_sem, Nat.reduceAdd, Nat.reduceEqDiff, Nat.reduceLeDiff, true_and, List.length_map, len_row, one_row, E.enc_mk]
      refine hK10 _ _ ?_; try clear hK10 K10
      conv => enter [5]; simp only [setL_cons, setL_nil, List.set_cons_zero, List.set_cons_succ]
      refine AW.ret ⟨.inr rfl, _, rfl, by simp, ?_⟩ -- return 1
      rw [hi1, List.take_length]
      have := hdl l.length
      rw [List.take_length] at this
      rw [wrap_add1 (a := depthL l) (by omega)]
      exact .keep rfl

set_option maxRecDepth 100000 in
theorem depth_step (k o n : Int) (s : ByteArray) (nl : Bool) (l : List E) (hz : 1 + sizeL l < 9223372036854775808) (ih : ∀ e ∈ l, APure prog Γ 42 [e.enc] (i64 (e.depth : Nat))) : APure prog Γ 42 [(E.mk k o n s nl l).enc] (i64 ((E.mk k o n s nl l).depth : Nat)) := by
  refine APure.of func42 rfl fun σ => ?_
  simp only [ntmps42, List.length_cons, List.length_nil, Nat.reduceAdd, Nat.reduceSub, List.replicate_succ, List.replicate_zero, List.cons_append, List.nil_append]
  have hdl : ∀ i, depthL (l.take i) ≤ sizeL l := fun i => by
    have h1 := sizeL_le (l := l) i
    have h2 : ∀ m : List E, depthL m ≤ sizeL m := fun m => by
      have := depth_size (.mk 0 0 0 ⟨#[]⟩ true m)
      simp only [E.depth, E.size] at this
      omega
    exact Nat.le_trans (h2 _) h1
  have hl : l.length ≤ maxLen := by have := length_sizeL l; rw [maxLen_eq]; omega
  rw [E.enc_mk]
  refine AW.regl false [1, 2] (by rfl) fun K1 hK1 => ?_ -- region 0
  simp only [go_sem, Nat.reduceAdd, Nat.reduceEqDiff, Nat.reduceLeDiff, true_and, List.length_map, len_row, one_row, E.enc_mk, aMax, enc_one, enc_len]
  refine hK1 _ _ ?_; try clear hK1 K1
  conv => enter [5]; simp only [setL_cons, setL_nil, List.set_cons_zero, List.set_cons_succ]
  refine AW.regl false [3] (by rfl) fun K2 hK2 => ?_ -- region 1
  simp only [go_sem, Nat.reduceAdd, Nat.reduceEqDiff, Nat.reduceLeDiff, true_and, List.length_map, len_row, one_row, E.enc_mk, aMax, enc_one, enc_len]
  refine hK2 _ _ ?_; try clear hK2 K2
  conv => enter [5]; simp only [setL_cons, setL_nil, List.set_cons_zero, List.set_cons_succ]
  refine AW.seq_k fun K3 hK3 => ?_
  refine AW.regl false [7, 8, 9] (by rfl) fun K4 hK4 => ?_ -- region 2
  simp only [go_sem, Nat.reduceAdd, Nat.reduceEqDiff, Nat.reduceLeDiff, true_and, List.length_map, len_row, one_row, E.enc_mk, aMax, enc_one, enc_len]
  refine hK4 _ _ ?_; try clear hK4 K4
  conv => enter [5]; simp only [setL_cons, setL_nil, List.set_cons_zero, List.set_cons_succ]
  refine AW.block ?_
  refine AW.loop_dr (α := Nat) (fun i => [.any, .any, .any, (.val (.int .i64 ((depthL (l.take i) : Nat) : Int))), .any, .any, .any, (rowAV 5 nl (l.map E.enc)), (.val (.int .i64 ((l.length : Nat) : Int))), (.val (.int .i64 ((i : Nat) : Int))), .any, .any, .any, .any, .any, .any, .any, .any, .any, .any]) (fun i => σ ++ [.cells [.val (.int .i64 k), .val (.int .i64 o), .val (.int .i64 n), .val (.string s), rowAV 5 nl (l.map E.enc)]]) (fun i => l.length - i) (fun i => i ≤ l.length) 0 ?_ ?_ ?_
  · exact ⟨Nat.zero_le _, by simp [Wk, depthL], rfl⟩
  · exact fun y _ => ⟨by simp [belL, AV.bel, row_bel5], bel_one⟩
  · intro i hi
    refine AW.regl false [10] (by rfl) fun K5 hK5 => ?_ -- region 3
    simp only [go_sem, Nat.reduceAdd, Nat.reduceEqDiff, Nat.reduceLeDiff, true_and, List.length_map, len_row, one_row, E.enc_mk, aMax, enc_one, enc_len]
    refine hK5 _ _ ?_; try clear hK5 K5
    conv => enter [5]; simp only [setL_cons, setL_nil, List.set_cons_zero, List.set_cons_succ]
    refine AW.seq_k fun K6 hK6 => ?_
    refine AW.cond rfl (fun hc10 => ?_) (fun hc10 => ?_)
    · skip
      have hi1 : i < l.length := by simpa using hc10
      have hx : (l.map E.enc)[i]? = some (E.enc (l[i])) := by rw [List.getElem?_map, List.getElem?_eq_getElem hi1]; rfl
      have hd : (if depthL (l.take i) < (l[i]).depth then ((l[i]).depth : Int) else (depthL (l.take i) : Int)) = ((depthL (l.take (i + 1)) : Nat) : Int) := by rw [depthL_take hi1]; split <;> omega
      refine AW.skip ?_
      refine hK6 _ _ ?_; try clear hK6 K6
      refine AW.seq_k fun K7 hK7 => ?_
      refine AW.block ?_
      refine AW.regl false [5] (by rfl) fun K8 hK8 => ?_ -- region 4
      simp only [go_sem, Nat.reduceAdd, Nat.reduceEqDiff, Nat.reduceLeDiff, true_and, List.length_map, len_row, one_row, E.enc_mk, aMax, enc_one, enc_len, at_row hx, enc_get47]
      refine hK8 _ _ ?_; try clear hK8 K8
      conv => enter [5]; simp only [setL_cons, setL_nil, List.set_cons_zero, List.set_cons_succ, upd_none, upd_at]
      refine AW.lastl false [3] (by rfl) fun K hK => ?_ -- region 5
      simp only [go_sem, Nat.reduceAdd, Nat.reduceEqDiff, Nat.reduceLeDiff, true_and, List.length_map, len_row, one_row, E.enc_mk, aMax, enc_one, enc_len, enc_get47]
      refine sC.of en42 ((ih _ (mem_at hi1)).on _).here (by rfl) ?_
      simp only [go_sem, Nat.reduceAdd, Nat.reduceEqDiff, Nat.reduceLeDiff, true_and, List.length_map, len_row, one_row, E.enc_mk, aMax, enc_one, enc_len, enc_get47]
      refine hK _ _ fun env' hw => ?_
      simp only [setL_cons, setL_nil, List.set_cons_zero, List.set_cons_succ] at hw
      refine hK7 _ _ (AW.weaken hw ?_); clear hw; try clear hK7 K7
      refine AW.lastl false [9] (by rfl) fun K hK => ?_ -- region 6
      simp only [go_sem, Nat.reduceAdd, Nat.reduceEqDiff, Nat.reduceLeDiff, true_and, List.length_map, len_row, one_row, E.enc_mk, aMax, enc_one, enc_len]
      refine hK _ _ fun env' hw => ?_
      simp only [setL_cons, setL_nil, List.set_cons_zero, List.set_cons_succ] at hw
      refine ⟨i + 1, by omega, by omega, ?_, by first | rfl | (simp [List.take_append, List.take_of_length_le]; done) | (simp [List.take_append, List.take_of_length_le]; repeat' constructor)⟩
      refine hw.trans ?_
      simp [Wk, wrap_succ hi1 hl, hd]
      try omega
    · skip
      have hi1 : i = l.length := by
        have : ¬ i < l.length := by simpa using hc10
        omega
      refine AW.exit ?_
      refine hK3 _ _ ?_; try clear hK3 K3
      refine AW.regl false [2] (by rfl) fun K9 hK9 => ?_ -- region 7
      simp only [go_sem, Nat.reduceAdd, Nat.reduceEqDiff, Nat.reduceLeDiff, true_and, List.length_map, len_row, one_row, E.enc_mk, aMax, enc_one, enc_len]
      refine hK9 _ _ ?_; try clear hK9 K9
      conv => enter [5]; simp only [setL_cons, setL_nil, List.set_cons_zero, List.set_cons_succ]
      refine AW.ret ⟨.inr rfl, _, rfl, by simp, ?_⟩ -- return 1
      rw [hi1, List.take_length]
      have := hdl l.length
      rw [List.take_length] at this
      rw [wrap_add1 (a := depthL l) (by omega)]
      exact .keep rfl

set_option maxRecDepth 100000 in
theorem own_step (k o n : Int) (s : ByteArray) (nl : Bool) (l : List E) (hz : l.length ≤ 2000000) (ih : ∀ e ∈ l, APure prog Γ 13 [e.enc] e.norm.enc) : APure prog Γ 13 [(E.mk k o n s nl l).enc] (E.mk k o n s nl l).norm.enc := by
  refine APure.of func13 rfl fun σ => ?_
  simp only [ntmps13, List.length_cons, List.length_nil, Nat.reduceAdd, Nat.reduceSub, List.replicate_succ, List.replicate_zero, List.cons_append, List.nil_append]
  have hl : l.length ≤ maxLen := by rw [maxLen_eq]; omega
  rw [E.enc_mk, E.norm_mk, E.enc_mk]
  refine AW.regl false [1, 2] (by rfl) fun K1 hK1 => ?_ -- region 0
  simp only [go_sem, Nat.reduceAdd, Nat.reduceEqDiff, Nat.reduceLeDiff, true_and, List.length_map, len_row, one_row, E.enc_mk, enc_one, enc_len]
  refine hK1 _ _ ?_; try clear hK1 K1
  conv => enter [5]; simp only [setL_cons, setL_nil, List.set_cons_zero, List.set_cons_succ]
  refine AW.regl false [3] (by rfl) fun K2 hK2 => ?_ -- region 1
  simp only [go_sem, Nat.reduceAdd, Nat.reduceEqDiff, Nat.reduceLeDiff, true_and, List.length_map, len_row, one_row, E.enc_mk, enc_one, enc_len]
  refine hK2 _ _ ?_; try clear hK2 K2
  conv => enter [5]; simp only [setL_cons, setL_nil, List.set_cons_zero, List.set_cons_succ, upd_none, upd_at]
  refine AW.cap 5 ?_
  simp only [List.append_assoc, List.cons_append, List.nil_append]
  refine AW.own (σ.length + 2) 4 (σ.length + 3) ((app_get σ _ 2).trans rfl) rfl ((app_get σ _ 3).trans rfl) (by decide) ?_
  simp only [app_set, List.set_cons_zero, List.set_cons_succ]
  refine AW.seq_k fun K3 hK3 => ?_
  refine AW.regl false [4] (by rfl) fun K4 hK4 => ?_ -- region 2
  simp only [go_sem, Nat.reduceAdd, Nat.reduceEqDiff, Nat.reduceLeDiff, true_and, List.length_map, len_row, one_row, E.enc_mk, enc_one, enc_len]
  refine hK4 _ _ ?_; try clear hK4 K4
  conv => enter [5]; simp only [setL_cons, setL_nil, List.set_cons_zero, List.set_cons_succ]
  refine AW.block ?_
  refine AW.loop_wk (α := Nat) (fun i => [.any, (.ref σ.length 0), (.ref (σ.length + 1) 0), (.ref (σ.length + 2) 0), (.val (.int .i64 ((i : Nat) : Int))), .any, .any, .any, .any, .any, .any, .any, .any, .any, .any, .any, .any, .any, .any, .any, .any, .any, .any, .any, .any, .any, .any, .any, .any, .any, .any, .any, .any]) (fun i => σ ++ [.cells [.val (.int .i64 k), .val (.int .i64 o), .val (.int .i64 n), .val (.string s), rowAV 5 nl (l.map E.enc)], .cells [.val (.int .i64 0), .val (.int .i64 0), .val (.int .i64 0), .val (.string ⟨#[]⟩), .nilsl], .cells [.val (.int .i64 k), .val (.int .i64 o), .val (.int .i64 n), .val (.string s), .slo true 5 (((l.take i).map E.norm).map E.enc) (σ.length + 3)], .cap i 5]) (fun i => l.length - i) (fun i => i ≤ l.length) 0 ?_ ?_
  · exact ⟨Nat.zero_le _, by simp [Wk], rfl⟩
  · intro i hi
    refine AW.seq_k fun K5 hK5 => ?_
    refine AW.regl false [18] (by rfl) fun K6 hK6 => ?_ -- region 3
    simp only [go_sem, Nat.reduceAdd, Nat.reduceEqDiff, Nat.reduceLeDiff, true_and, List.length_map, len_row, one_row, E.enc_mk, enc_one, enc_len]
    refine hK6 _ _ ?_; try clear hK6 K6
    conv => enter [5]; simp only [setL_cons, setL_nil, List.set_cons_zero, List.set_cons_succ]
    refine AW.cond rfl (fun hc18 => ?_) (fun hc18 => ?_)
    · skip
      have hi1 : i < l.length := by simpa using hc18
      have hx : (l.map E.enc)[i]? = some (E.enc (l[i])) := by rw [List.getElem?_map, List.getElem?_eq_getElem hi1]; rfl
      have hap := app_at (en := fun e => (E.norm e).enc) hi1 (by omega) true 5 64 (by decide)
      have htk : ((l.take i).map E.norm).map E.enc ++ [(E.norm l[i]).enc] = ((l.take (i + 1)).map E.norm).map E.enc := by rw [List.map_map, List.map_map]; exact take_at (E.enc ∘ E.norm) hi1
      rw [show (l.take i).map (fun e => (E.norm e).enc) = ((l.take i).map E.norm).map E.enc by rw [List.map_map]; rfl] at hap
      refine AW.skip ?_
      refine hK5 _ _ ?_; try clear hK5 K5
      refine AW.seq_k fun K7 hK7 => ?_
      refine AW.block ?_
      refine AW.lastml mixed false [] 9 (by kernel_rfl) (by kernel_rfl) (by rfl) fun K hK => ?_ -- region 5
      simp only [go_sem, Nat.reduceAdd, Nat.reduceEqDiff, Nat.reduceLeDiff, true_and, List.length_map, len_row, one_row, E.enc_mk, enc_one, enc_len, at_row hx, enc_get43, hap, row1_41 _ _ (enc_len (E.norm l[i])) (enc_one (E.norm l[i])), htk]
      refine qC.of en13 ((ih _ (mem_at hi1)).on _).here (by rfl) ?_
      simp only [go_sem, Nat.reduceAdd, Nat.reduceEqDiff, Nat.reduceLeDiff, true_and, List.length_map, len_row, one_row, E.enc_mk, enc_one, enc_len, at_row hx, enc_get43, hap, row1_41 _ _ (enc_len (E.norm l[i])) (enc_one (E.norm l[i])), htk]
      refine hK _ _ fun env' hw => ?_
      simp only [setL_cons, setL_nil, List.set_cons_zero, List.set_cons_succ, upd_none, upd_at] at hw
      refine hK7 _ _ (AW.weaken hw ?_); clear hw; try clear hK7 K7
      refine AW.lastl false [4] (by rfl) fun K hK => ?_ -- region 4
      simp only [go_sem, Nat.reduceAdd, Nat.reduceEqDiff, Nat.reduceLeDiff, true_and, List.length_map, len_row, one_row, E.enc_mk, enc_one, enc_len]
      refine hK _ _ fun env' hw => ?_
      simp only [setL_cons, setL_nil, List.set_cons_zero, List.set_cons_succ] at hw
      refine ⟨i + 1, by omega, by omega, ?_, rfl⟩
      refine hw.trans ?_
      simp [Wk, wrap_succ hi1 hl]
      try omega
    · skip
      have hi1 : i = l.length := by
        have : ¬ i < l.length := by simpa using hc18
        omega
      refine AW.exit ?_
      refine hK3 _ _ ?_; try clear hK3 K3
      refine AW.regl false [] (by rfl) fun K8 hK8 => ?_ -- region 6
      simp only [go_sem, Nat.reduceAdd, Nat.reduceEqDiff, Nat.reduceLeDiff, true_and, List.length_map, len_row, one_row, E.enc_mk, enc_one, enc_len]
      refine hK8 _ _ ?_; try clear hK8 K8
      conv => enter [5]; simp only [setL_cons, setL_nil, List.set_cons_zero, List.set_cons_succ, upd_none, upd_at]
      rw [hi1, List.take_length]
      refine AW.ret ⟨.inr rfl, _, ret_cell (v := .agg [i64 k, i64 o, i64 n, str s, .slo true 5 ((l.map E.norm).map E.enc) (σ.length + 3)]) rfl ((load_app σ _ 43 1 0).trans (by simp only [go_sem, aLoadAt] <;> rfl)), by simp, ?_⟩
      exact .agg (.cons (.keep rfl) (.cons (.keep rfl) (.cons (.keep rfl) (.cons (.keep rfl) (.cons (frz_row (fun e m => enc_bel m e) (by omega) (l.map E.norm)) .nil)))))

set_option maxRecDepth 100000 in
theorem single_calls (hΓ : Words Γ) (k o n : Int) (s : ByteArray) (nl : Bool) (l : List E) (hs : s.size ≤ 1000000000) : APure prog Γ 41 [(E.mk k o n s nl l).enc] (bool (E.mk k o n s nl l).single) := by
  refine APure.of func41 rfl fun σ => ?_
  simp only [ntmps41, List.length_cons, List.length_nil, Nat.reduceAdd, Nat.reduceSub, List.replicate_succ, List.replicate_zero, List.cons_append, List.nil_append]
  rw [E.enc_mk]
  simp only [E.single]
  refine AW.regl false [1, 2] (by rfl) fun K1 hK1 => ?_ -- region 0
  simp only [go_sem, Nat.reduceAdd, Nat.reduceEqDiff, Nat.reduceLeDiff, true_and, List.length_map, len_row, one_row, E.enc_mk, ba_beqL]
  refine hK1 _ _ ?_; try clear hK1 K1
  conv => enter [5]; simp only [setL_cons, setL_nil, List.set_cons_zero, List.set_cons_succ]
  refine AW.regtf false 3 (.val (.bool ((n == 0) && (decide (s = ⟨#[]⟩))))) (by rfl) ?_ ?_ -- region 1
  · skip
    cases h7 : ((n == 0))
    · skip
      simp only [go_sem, Nat.reduceAdd, Nat.reduceEqDiff, Nat.reduceLeDiff, true_and, List.length_map, len_row, one_row, E.enc_mk, ba_beqL, h7]
      try simp [upd_at, h7, List.length_map, len_row, one_row, E.enc_mk, ba_beqL]
    · skip
      simp only [go_sem, Nat.reduceAdd, Nat.reduceEqDiff, Nat.reduceLeDiff, true_and, List.length_map, len_row, one_row, E.enc_mk, ba_beqL, h7]
      try simp [upd_at, h7, List.length_map, len_row, one_row, E.enc_mk, ba_beqL]
  conv => enter [5]; simp only [List.set_cons_zero, List.set_cons_succ]
  refine AW.seq_k fun K3 hK3 => ?_
  refine AW.regl false [4] (by rfl) fun K4 hK4 => ?_ -- region 2
  simp only [go_sem, Nat.reduceAdd, Nat.reduceEqDiff, Nat.reduceLeDiff, true_and, List.length_map, len_row, one_row, E.enc_mk, ba_beqL]
  refine hK4 _ _ ?_; try clear hK4 K4
  conv => enter [5]; simp only [setL_cons, setL_nil, List.set_cons_zero, List.set_cons_succ]
  refine AW.regl false [17] (by rfl) fun K5 hK5 => ?_ -- region 3
  simp only [go_sem, Nat.reduceAdd, Nat.reduceEqDiff, Nat.reduceLeDiff, true_and, List.length_map, len_row, one_row, E.enc_mk, ba_beqL]
  refine hK5 _ _ ?_; try clear hK5 K5
  conv => enter [5]; simp only [setL_cons, setL_nil, List.set_cons_zero, List.set_cons_succ]
  refine AW.block ?_
  refine AW.regl false [18] (by rfl) fun K6 hK6 => ?_ -- region 4
  simp only [go_sem, Nat.reduceAdd, Nat.reduceEqDiff, Nat.reduceLeDiff, true_and, List.length_map, len_row, one_row, E.enc_mk, ba_beqL]
  refine hK6 _ _ ?_; try clear hK6 K6
  conv => enter [5]; simp only [setL_cons, setL_nil, List.set_cons_zero, List.set_cons_succ]
  refine AW.cond rfl (fun hc18 => ?_) (fun hc18 => ?_)
  · skip
    refine AW.regcuts fun K7 hK7 => ?_ -- region 5
    refine AOps.cut false 8 27 (.val (.bool ((decide (n ≥ 0)) && (decide (s = ⟨#[]⟩))))) (by rfl) ?_ ?_
    · skip
      cases h22 : ((decide (n ≥ 0)))
      · skip
        simp only [go_sem, Nat.reduceAdd, Nat.reduceEqDiff, Nat.reduceLeDiff, true_and, List.length_map, len_row, one_row, E.enc_mk, ba_beqL, List.take_succ_cons, List.take_zero, h22]
        try simp [upd_at, h22, List.length_map, len_row, one_row, E.enc_mk, ba_beqL]
      · skip
        simp only [go_sem, Nat.reduceAdd, Nat.reduceEqDiff, Nat.reduceLeDiff, true_and, List.length_map, len_row, one_row, E.enc_mk, ba_beqL, List.take_succ_cons, List.take_zero, h22]
        try simp [upd_at, h22, List.length_map, len_row, one_row, E.enc_mk, ba_beqL]
    simp only [List.drop_succ_cons, List.drop_zero, List.set_cons_zero, List.set_cons_succ]
    refine AOps.cut false 5 32 (.val (.bool (((decide (n ≥ 0)) && (decide (s = ⟨#[]⟩))) && (o == 0)))) (by rfl) ?_ ?_
    · skip
      cases h27 : (((decide (n ≥ 0)) && (decide (s = ⟨#[]⟩))))
      · skip
        simp only [go_sem, Nat.reduceAdd, Nat.reduceEqDiff, Nat.reduceLeDiff, true_and, List.length_map, len_row, one_row, E.enc_mk, ba_beqL, List.take_succ_cons, List.take_zero, h27]
        try simp [upd_at, h27, List.length_map, len_row, one_row, E.enc_mk, ba_beqL]
      · skip
        simp only [go_sem, Nat.reduceAdd, Nat.reduceEqDiff, Nat.reduceLeDiff, true_and, List.length_map, len_row, one_row, E.enc_mk, ba_beqL, List.take_succ_cons, List.take_zero, h27]
        try simp [upd_at, h27, List.length_map, len_row, one_row, E.enc_mk, ba_beqL]
    simp only [List.drop_succ_cons, List.drop_zero, List.set_cons_zero, List.set_cons_succ]
    refine AOps.cut false 5 2 (.val (.bool ((((decide (n ≥ 0)) && (decide (s = ⟨#[]⟩))) && (o == 0)) && (((l.length : Nat) : Int) == 0)))) (by rfl) ?_ ?_
    · skip
      cases h32 : ((((decide (n ≥ 0)) && (decide (s = ⟨#[]⟩))) && (o == 0)))
      · skip
        simp only [go_sem, Nat.reduceAdd, Nat.reduceEqDiff, Nat.reduceLeDiff, true_and, List.length_map, len_row, one_row, E.enc_mk, ba_beqL, List.take_succ_cons, List.take_zero, h32]
        try simp [upd_at, h32, List.length_map, len_row, one_row, E.enc_mk, ba_beqL]
      · skip
        simp only [go_sem, Nat.reduceAdd, Nat.reduceEqDiff, Nat.reduceLeDiff, true_and, List.length_map, len_row, one_row, E.enc_mk, ba_beqL, List.take_succ_cons, List.take_zero, h32]
        try simp [upd_at, h32, List.length_map, len_row, one_row, E.enc_mk, ba_beqL]
    simp only [List.drop_succ_cons, List.drop_zero, List.set_cons_zero, List.set_cons_succ]
    refine AOps.nil (hK7 _ _ ?_); try clear hK7 K7
    refine AW.ret ⟨.inr rfl, _, rfl, by simp, ?_⟩ -- return 1
    refine frzB ?_
    simp only [A.single, hc18, if_true, if_false, Bool.false_eq_true]
  · skip
    refine AW.regl false [37] (by rfl) fun K8 hK8 => ?_ -- region 6
    simp only [go_sem, Nat.reduceAdd, Nat.reduceEqDiff, Nat.reduceLeDiff, true_and, List.length_map, len_row, one_row, E.enc_mk, ba_beqL]
    refine hK8 _ _ ?_; try clear hK8 K8
    conv => enter [5]; simp only [setL_cons, setL_nil, List.set_cons_zero, List.set_cons_succ]
    refine AW.cond rfl (fun hc37 => ?_) (fun hc37 => ?_)
    · skip
      refine AW.regcuts fun K9 hK9 => ?_ -- region 7
      refine AOps.cut false 8 46 (.val (.bool ((decide (n ≥ 0)) && (decide (n ≤ 1))))) (by rfl) ?_ ?_
      · skip
        cases h41 : ((decide (n ≥ 0)))
        · skip
          simp only [go_sem, Nat.reduceAdd, Nat.reduceEqDiff, Nat.reduceLeDiff, true_and, List.length_map, len_row, one_row, E.enc_mk, ba_beqL, List.take_succ_cons, List.take_zero, h41]
          try simp [upd_at, h41, List.length_map, len_row, one_row, E.enc_mk, ba_beqL]
        · skip
          simp only [go_sem, Nat.reduceAdd, Nat.reduceEqDiff, Nat.reduceLeDiff, true_and, List.length_map, len_row, one_row, E.enc_mk, ba_beqL, List.take_succ_cons, List.take_zero, h41]
          try simp [upd_at, h41, List.length_map, len_row, one_row, E.enc_mk, ba_beqL]
      simp only [List.drop_succ_cons, List.drop_zero, List.set_cons_zero, List.set_cons_succ]
      refine AOps.cut false 5 51 (.val (.bool (((decide (n ≥ 0)) && (decide (n ≤ 1))) && (decide (s = ⟨#[]⟩))))) (by rfl) ?_ ?_
      · skip
        cases h46 : (((decide (n ≥ 0)) && (decide (n ≤ 1))))
        · skip
          simp only [go_sem, Nat.reduceAdd, Nat.reduceEqDiff, Nat.reduceLeDiff, true_and, List.length_map, len_row, one_row, E.enc_mk, ba_beqL, List.take_succ_cons, List.take_zero, h46]
          try simp [upd_at, h46, List.length_map, len_row, one_row, E.enc_mk, ba_beqL]
        · skip
          simp only [go_sem, Nat.reduceAdd, Nat.reduceEqDiff, Nat.reduceLeDiff, true_and, List.length_map, len_row, one_row, E.enc_mk, ba_beqL, List.take_succ_cons, List.take_zero, h46]
          try simp [upd_at, h46, List.length_map, len_row, one_row, E.enc_mk, ba_beqL]
      simp only [List.drop_succ_cons, List.drop_zero, List.set_cons_zero, List.set_cons_succ]
      refine AOps.cut false 5 56 (.val (.bool ((((decide (n ≥ 0)) && (decide (n ≤ 1))) && (decide (s = ⟨#[]⟩))) && (o == 0)))) (by rfl) ?_ ?_
      · skip
        cases h51 : ((((decide (n ≥ 0)) && (decide (n ≤ 1))) && (decide (s = ⟨#[]⟩))))
        · skip
          simp only [go_sem, Nat.reduceAdd, Nat.reduceEqDiff, Nat.reduceLeDiff, true_and, List.length_map, len_row, one_row, E.enc_mk, ba_beqL, List.take_succ_cons, List.take_zero, h51]
          try simp [upd_at, h51, List.length_map, len_row, one_row, E.enc_mk, ba_beqL]
        · skip
          simp only [go_sem, Nat.reduceAdd, Nat.reduceEqDiff, Nat.reduceLeDiff, true_and, List.length_map, len_row, one_row, E.enc_mk, ba_beqL, List.take_succ_cons, List.take_zero, h51]
          try simp [upd_at, h51, List.length_map, len_row, one_row, E.enc_mk, ba_beqL]
      simp only [List.drop_succ_cons, List.drop_zero, List.set_cons_zero, List.set_cons_succ]
      refine AOps.cut false 5 2 (.val (.bool (((((decide (n ≥ 0)) && (decide (n ≤ 1))) && (decide (s = ⟨#[]⟩))) && (o == 0)) && (((l.length : Nat) : Int) == 0)))) (by rfl) ?_ ?_
      · skip
        cases h56 : (((((decide (n ≥ 0)) && (decide (n ≤ 1))) && (decide (s = ⟨#[]⟩))) && (o == 0)))
        · skip
          simp only [go_sem, Nat.reduceAdd, Nat.reduceEqDiff, Nat.reduceLeDiff, true_and, List.length_map, len_row, one_row, E.enc_mk, ba_beqL, List.take_succ_cons, List.take_zero, h56]
          try simp [upd_at, h56, List.length_map, len_row, one_row, E.enc_mk, ba_beqL]
        · skip
          simp only [go_sem, Nat.reduceAdd, Nat.reduceEqDiff, Nat.reduceLeDiff, true_and, List.length_map, len_row, one_row, E.enc_mk, ba_beqL, List.take_succ_cons, List.take_zero, h56]
          try simp [upd_at, h56, List.length_map, len_row, one_row, E.enc_mk, ba_beqL]
      simp only [List.drop_succ_cons, List.drop_zero, List.set_cons_zero, List.set_cons_succ]
      refine AOps.nil (hK9 _ _ ?_); try clear hK9 K9
      refine AW.ret ⟨.inr rfl, _, rfl, by simp, ?_⟩ -- return 2
      refine frzB ?_
      simp only [A.single, hc18, hc37, if_true, if_false, Bool.false_eq_true]
    · skip
      refine AW.regl false [61] (by rfl) fun K10 hK10 => ?_ -- region 8
      simp only [go_sem, Nat.reduceAdd, Nat.reduceEqDiff, Nat.reduceLeDiff, true_and, List.length_map, len_row, one_row, E.enc_mk, ba_beqL]
      refine hK10 _ _ ?_; try clear hK10 K10
      conv => enter [5]; simp only [setL_cons, setL_nil, List.set_cons_zero, List.set_cons_succ]
      refine AW.cond rfl (fun hc61 => ?_) (fun hc61 => ?_)
      · skip
        refine AW.regcuts fun K11 hK11 => ?_ -- region 9
        refine AOps.cut false 8 70 (.val (.bool ((nameM s) && (n == 0)))) (by rfl) ?_ ?_
        · skip
          cases h65 : ((nameM s))
          · skip
            simp only [go_sem, Nat.reduceAdd, Nat.reduceEqDiff, Nat.reduceLeDiff, true_and, List.length_map, len_row, one_row, E.enc_mk, ba_beqL, List.take_succ_cons, List.take_zero, h65]
            refine sC.of en49 ((name_calls hΓ s (by omega)).on _).here (by rfl) ?_
            simp only [go_sem, Nat.reduceAdd, Nat.reduceEqDiff, Nat.reduceLeDiff, true_and, List.length_map, len_row, one_row, E.enc_mk, ba_beqL, List.take_succ_cons, List.take_zero, h65]
            try simp [upd_at, h65, List.length_map, len_row, one_row, E.enc_mk, ba_beqL]
          · skip
            simp only [go_sem, Nat.reduceAdd, Nat.reduceEqDiff, Nat.reduceLeDiff, true_and, List.length_map, len_row, one_row, E.enc_mk, ba_beqL, List.take_succ_cons, List.take_zero, h65]
            refine sC.of en49 ((name_calls hΓ s (by omega)).on _).here (by rfl) ?_
            simp only [go_sem, Nat.reduceAdd, Nat.reduceEqDiff, Nat.reduceLeDiff, true_and, List.length_map, len_row, one_row, E.enc_mk, ba_beqL, List.take_succ_cons, List.take_zero, h65]
            try simp [upd_at, h65, List.length_map, len_row, one_row, E.enc_mk, ba_beqL]
        simp only [List.drop_succ_cons, List.drop_zero, List.set_cons_zero, List.set_cons_succ]
        refine AOps.cut false 5 75 (.val (.bool (((nameM s) && (n == 0)) && (o == 0)))) (by rfl) ?_ ?_
        · skip
          cases h70 : (((nameM s) && (n == 0)))
          · skip
            simp only [go_sem, Nat.reduceAdd, Nat.reduceEqDiff, Nat.reduceLeDiff, true_and, List.length_map, len_row, one_row, E.enc_mk, ba_beqL, List.take_succ_cons, List.take_zero, h70]
            try simp [upd_at, h70, List.length_map, len_row, one_row, E.enc_mk, ba_beqL]
          · skip
            simp only [go_sem, Nat.reduceAdd, Nat.reduceEqDiff, Nat.reduceLeDiff, true_and, List.length_map, len_row, one_row, E.enc_mk, ba_beqL, List.take_succ_cons, List.take_zero, h70]
            try simp [upd_at, h70, List.length_map, len_row, one_row, E.enc_mk, ba_beqL]
        simp only [List.drop_succ_cons, List.drop_zero, List.set_cons_zero, List.set_cons_succ]
        refine AOps.cut false 5 2 (.val (.bool ((((nameM s) && (n == 0)) && (o == 0)) && (((l.length : Nat) : Int) == 0)))) (by rfl) ?_ ?_
        · skip
          cases h75 : ((((nameM s) && (n == 0)) && (o == 0)))
          · skip
            simp only [go_sem, Nat.reduceAdd, Nat.reduceEqDiff, Nat.reduceLeDiff, true_and, List.length_map, len_row, one_row, E.enc_mk, ba_beqL, List.take_succ_cons, List.take_zero, h75]
            try simp [upd_at, h75, List.length_map, len_row, one_row, E.enc_mk, ba_beqL]
          · skip
            simp only [go_sem, Nat.reduceAdd, Nat.reduceEqDiff, Nat.reduceLeDiff, true_and, List.length_map, len_row, one_row, E.enc_mk, ba_beqL, List.take_succ_cons, List.take_zero, h75]
            try simp [upd_at, h75, List.length_map, len_row, one_row, E.enc_mk, ba_beqL]
        simp only [List.drop_succ_cons, List.drop_zero, List.set_cons_zero, List.set_cons_succ]
        refine AOps.nil (hK11 _ _ ?_); try clear hK11 K11
        refine AW.ret ⟨.inr rfl, _, rfl, by simp, ?_⟩ -- return 3
        refine frzB ?_
        simp only [A.single, hc18, hc37, hc61, if_true, if_false, Bool.false_eq_true]
      · skip
        refine AW.regl false [80] (by rfl) fun K12 hK12 => ?_ -- region 10
        simp only [go_sem, Nat.reduceAdd, Nat.reduceEqDiff, Nat.reduceLeDiff, true_and, List.length_map, len_row, one_row, E.enc_mk, ba_beqL]
        refine hK12 _ _ ?_; try clear hK12 K12
        conv => enter [5]; simp only [setL_cons, setL_nil, List.set_cons_zero, List.set_cons_succ]
        refine AW.cond rfl (fun hc80 => ?_) (fun hc80 => ?_)
        · skip
          refine AW.regcuts fun K13 hK13 => ?_ -- region 11
          refine AOps.cut false 6 87 (.val (.bool (((n == 0) && (decide (s = ⟨#[]⟩))) && (decide (o ≥ 0))))) (by rfl) ?_ ?_
          · skip
            cases h3 : (((n == 0) && (decide (s = ⟨#[]⟩))))
            · skip
              simp only [go_sem, Nat.reduceAdd, Nat.reduceEqDiff, Nat.reduceLeDiff, true_and, List.length_map, len_row, one_row, E.enc_mk, ba_beqL, List.take_succ_cons, List.take_zero, h3]
              try simp [upd_at, h3, List.length_map, len_row, one_row, E.enc_mk, ba_beqL]
            · skip
              simp only [go_sem, Nat.reduceAdd, Nat.reduceEqDiff, Nat.reduceLeDiff, true_and, List.length_map, len_row, one_row, E.enc_mk, ba_beqL, List.take_succ_cons, List.take_zero, h3]
              try simp [upd_at, h3, List.length_map, len_row, one_row, E.enc_mk, ba_beqL]
          simp only [List.drop_succ_cons, List.drop_zero, List.set_cons_zero, List.set_cons_succ]
          refine AOps.cut false 5 92 (.val (.bool ((((n == 0) && (decide (s = ⟨#[]⟩))) && (decide (o ≥ 0))) && (decide (o ≤ 2))))) (by rfl) ?_ ?_
          · skip
            cases h87 : ((((n == 0) && (decide (s = ⟨#[]⟩))) && (decide (o ≥ 0))))
            · skip
              simp only [go_sem, Nat.reduceAdd, Nat.reduceEqDiff, Nat.reduceLeDiff, true_and, List.length_map, len_row, one_row, E.enc_mk, ba_beqL, List.take_succ_cons, List.take_zero, h87]
              try simp [upd_at, h87, List.length_map, len_row, one_row, E.enc_mk, ba_beqL]
            · skip
              simp only [go_sem, Nat.reduceAdd, Nat.reduceEqDiff, Nat.reduceLeDiff, true_and, List.length_map, len_row, one_row, E.enc_mk, ba_beqL, List.take_succ_cons, List.take_zero, h87]
              try simp [upd_at, h87, List.length_map, len_row, one_row, E.enc_mk, ba_beqL]
          simp only [List.drop_succ_cons, List.drop_zero, List.set_cons_zero, List.set_cons_succ]
          refine AOps.cut false 5 2 (.val (.bool (((((n == 0) && (decide (s = ⟨#[]⟩))) && (decide (o ≥ 0))) && (decide (o ≤ 2))) && (((l.length : Nat) : Int) == 1)))) (by rfl) ?_ ?_
          · skip
            cases h92 : (((((n == 0) && (decide (s = ⟨#[]⟩))) && (decide (o ≥ 0))) && (decide (o ≤ 2))))
            · skip
              simp only [go_sem, Nat.reduceAdd, Nat.reduceEqDiff, Nat.reduceLeDiff, true_and, List.length_map, len_row, one_row, E.enc_mk, ba_beqL, List.take_succ_cons, List.take_zero, h92]
              try simp [upd_at, h92, List.length_map, len_row, one_row, E.enc_mk, ba_beqL]
            · skip
              simp only [go_sem, Nat.reduceAdd, Nat.reduceEqDiff, Nat.reduceLeDiff, true_and, List.length_map, len_row, one_row, E.enc_mk, ba_beqL, List.take_succ_cons, List.take_zero, h92]
              try simp [upd_at, h92, List.length_map, len_row, one_row, E.enc_mk, ba_beqL]
          simp only [List.drop_succ_cons, List.drop_zero, List.set_cons_zero, List.set_cons_succ]
          refine AOps.nil (hK13 _ _ ?_); try clear hK13 K13
          refine AW.ret ⟨.inr rfl, _, rfl, by simp, ?_⟩ -- return 4
          refine frzB ?_
          simp only [A.single, hc18, hc37, hc61, hc80, if_true, if_false, Bool.false_eq_true]
        · skip
          refine AW.regl false [97] (by rfl) fun K14 hK14 => ?_ -- region 12
          simp only [go_sem, Nat.reduceAdd, Nat.reduceEqDiff, Nat.reduceLeDiff, true_and, List.length_map, len_row, one_row, E.enc_mk, ba_beqL]
          refine hK14 _ _ ?_; try clear hK14 K14
          conv => enter [5]; simp only [setL_cons, setL_nil, List.set_cons_zero, List.set_cons_succ]
          refine AW.cond rfl (fun hc97 => ?_) (fun hc97 => ?_)
          · skip
            refine AW.regcuts fun K15 hK15 => ?_ -- region 13
            refine AOps.cut false 6 104 (.val (.bool (((n == 0) && (decide (s = ⟨#[]⟩))) && (decide (o ≥ 0))))) (by rfl) ?_ ?_
            · skip
              cases h3 : (((n == 0) && (decide (s = ⟨#[]⟩))))
              · skip
                simp only [go_sem, Nat.reduceAdd, Nat.reduceEqDiff, Nat.reduceLeDiff, true_and, List.length_map, len_row, one_row, E.enc_mk, ba_beqL, List.take_succ_cons, List.take_zero, h3]
                try simp [upd_at, h3, List.length_map, len_row, one_row, E.enc_mk, ba_beqL]
              · skip
                simp only [go_sem, Nat.reduceAdd, Nat.reduceEqDiff, Nat.reduceLeDiff, true_and, List.length_map, len_row, one_row, E.enc_mk, ba_beqL, List.take_succ_cons, List.take_zero, h3]
                try simp [upd_at, h3, List.length_map, len_row, one_row, E.enc_mk, ba_beqL]
            simp only [List.drop_succ_cons, List.drop_zero, List.set_cons_zero, List.set_cons_succ]
            refine AOps.cut false 5 109 (.val (.bool ((((n == 0) && (decide (s = ⟨#[]⟩))) && (decide (o ≥ 0))) && (decide (o ≤ 15))))) (by rfl) ?_ ?_
            · skip
              cases h104 : ((((n == 0) && (decide (s = ⟨#[]⟩))) && (decide (o ≥ 0))))
              · skip
                simp only [go_sem, Nat.reduceAdd, Nat.reduceEqDiff, Nat.reduceLeDiff, true_and, List.length_map, len_row, one_row, E.enc_mk, ba_beqL, List.take_succ_cons, List.take_zero, h104]
                try simp [upd_at, h104, List.length_map, len_row, one_row, E.enc_mk, ba_beqL]
              · skip
                simp only [go_sem, Nat.reduceAdd, Nat.reduceEqDiff, Nat.reduceLeDiff, true_and, List.length_map, len_row, one_row, E.enc_mk, ba_beqL, List.take_succ_cons, List.take_zero, h104]
                try simp [upd_at, h104, List.length_map, len_row, one_row, E.enc_mk, ba_beqL]
            simp only [List.drop_succ_cons, List.drop_zero, List.set_cons_zero, List.set_cons_succ]
            refine AOps.cut false 5 2 (.val (.bool (((((n == 0) && (decide (s = ⟨#[]⟩))) && (decide (o ≥ 0))) && (decide (o ≤ 15))) && (((l.length : Nat) : Int) == 2)))) (by rfl) ?_ ?_
            · skip
              cases h109 : (((((n == 0) && (decide (s = ⟨#[]⟩))) && (decide (o ≥ 0))) && (decide (o ≤ 15))))
              · skip
                simp only [go_sem, Nat.reduceAdd, Nat.reduceEqDiff, Nat.reduceLeDiff, true_and, List.length_map, len_row, one_row, E.enc_mk, ba_beqL, List.take_succ_cons, List.take_zero, h109]
                try simp [upd_at, h109, List.length_map, len_row, one_row, E.enc_mk, ba_beqL]
              · skip
                simp only [go_sem, Nat.reduceAdd, Nat.reduceEqDiff, Nat.reduceLeDiff, true_and, List.length_map, len_row, one_row, E.enc_mk, ba_beqL, List.take_succ_cons, List.take_zero, h109]
                try simp [upd_at, h109, List.length_map, len_row, one_row, E.enc_mk, ba_beqL]
            simp only [List.drop_succ_cons, List.drop_zero, List.set_cons_zero, List.set_cons_succ]
            refine AOps.nil (hK15 _ _ ?_); try clear hK15 K15
            refine AW.ret ⟨.inr rfl, _, rfl, by simp, ?_⟩ -- return 5
            refine frzB ?_
            simp only [A.single, hc18, hc37, hc61, hc80, hc97, if_true, if_false, Bool.false_eq_true]
          · skip
            refine AW.regl false [114] (by rfl) fun K16 hK16 => ?_ -- region 14
            simp only [go_sem, Nat.reduceAdd, Nat.reduceEqDiff, Nat.reduceLeDiff, true_and, List.length_map, len_row, one_row, E.enc_mk, ba_beqL]
            refine hK16 _ _ ?_; try clear hK16 K16
            conv => enter [5]; simp only [setL_cons, setL_nil, List.set_cons_zero, List.set_cons_succ]
            refine AW.cond rfl (fun hc114 => ?_) (fun hc114 => ?_)
            · skip
              refine AW.regtf false 2 (.val (.bool ((((n == 0) && (decide (s = ⟨#[]⟩))) && (o == 0)) && (((l.length : Nat) : Int) == 3)))) (by rfl) ?_ ?_ -- region 15
              · skip
                cases h3 : (((n == 0) && (decide (s = ⟨#[]⟩))))
                · skip
                  simp only [go_sem, Nat.reduceAdd, Nat.reduceEqDiff, Nat.reduceLeDiff, true_and, List.length_map, len_row, one_row, E.enc_mk, ba_beqL, h3]
                  try simp [upd_at, h3, List.length_map, len_row, one_row, E.enc_mk, ba_beqL]
                · skip
                  cases h120 : ((o == 0))
                  · skip
                    simp only [go_sem, Nat.reduceAdd, Nat.reduceEqDiff, Nat.reduceLeDiff, true_and, List.length_map, len_row, one_row, E.enc_mk, ba_beqL, h3, h120]
                    try simp [upd_at, h3, h120, List.length_map, len_row, one_row, E.enc_mk, ba_beqL]
                  · skip
                    simp only [go_sem, Nat.reduceAdd, Nat.reduceEqDiff, Nat.reduceLeDiff, true_and, List.length_map, len_row, one_row, E.enc_mk, ba_beqL, h3, h120]
                    try simp [upd_at, h3, h120, List.length_map, len_row, one_row, E.enc_mk, ba_beqL]
              conv => enter [5]; simp only [List.set_cons_zero, List.set_cons_succ]
              refine AW.ret ⟨.inr rfl, _, rfl, by simp, ?_⟩ -- return 6
              refine frzB ?_
              simp only [A.single, hc18, hc37, hc61, hc80, hc97, hc114, if_true, if_false, Bool.false_eq_true]
            · skip
              refine AW.regl false [126] (by rfl) fun K18 hK18 => ?_ -- region 16
              simp only [go_sem, Nat.reduceAdd, Nat.reduceEqDiff, Nat.reduceLeDiff, true_and, List.length_map, len_row, one_row, E.enc_mk, ba_beqL]
              refine hK18 _ _ ?_; try clear hK18 K18
              conv => enter [5]; simp only [setL_cons, setL_nil, List.set_cons_zero, List.set_cons_succ]
              refine AW.cond rfl (fun hc126 => ?_) (fun hc126 => ?_)
              · skip
                refine AW.regcuts fun K19 hK19 => ?_ -- region 17
                refine AOps.cut false 8 135 (.val (.bool ((nameM s) && (n == 0)))) (by rfl) ?_ ?_
                · skip
                  cases h130 : ((nameM s))
                  · skip
                    simp only [go_sem, Nat.reduceAdd, Nat.reduceEqDiff, Nat.reduceLeDiff, true_and, List.length_map, len_row, one_row, E.enc_mk, ba_beqL, List.take_succ_cons, List.take_zero, h130]
                    refine sC.of en49 ((name_calls hΓ s (by omega)).on _).here (by rfl) ?_
                    simp only [go_sem, Nat.reduceAdd, Nat.reduceEqDiff, Nat.reduceLeDiff, true_and, List.length_map, len_row, one_row, E.enc_mk, ba_beqL, List.take_succ_cons, List.take_zero, h130]
                    try simp [upd_at, h130, List.length_map, len_row, one_row, E.enc_mk, ba_beqL]
                  · skip
                    simp only [go_sem, Nat.reduceAdd, Nat.reduceEqDiff, Nat.reduceLeDiff, true_and, List.length_map, len_row, one_row, E.enc_mk, ba_beqL, List.take_succ_cons, List.take_zero, h130]
                    refine sC.of en49 ((name_calls hΓ s (by omega)).on _).here (by rfl) ?_
                    simp only [go_sem, Nat.reduceAdd, Nat.reduceEqDiff, Nat.reduceLeDiff, true_and, List.length_map, len_row, one_row, E.enc_mk, ba_beqL, List.take_succ_cons, List.take_zero, h130]
                    try simp [upd_at, h130, List.length_map, len_row, one_row, E.enc_mk, ba_beqL]
                simp only [List.drop_succ_cons, List.drop_zero, List.set_cons_zero, List.set_cons_succ]
                refine AOps.cut false 5 140 (.val (.bool (((nameM s) && (n == 0)) && (o == 0)))) (by rfl) ?_ ?_
                · skip
                  cases h135 : (((nameM s) && (n == 0)))
                  · skip
                    simp only [go_sem, Nat.reduceAdd, Nat.reduceEqDiff, Nat.reduceLeDiff, true_and, List.length_map, len_row, one_row, E.enc_mk, ba_beqL, List.take_succ_cons, List.take_zero, h135]
                    try simp [upd_at, h135, List.length_map, len_row, one_row, E.enc_mk, ba_beqL]
                  · skip
                    simp only [go_sem, Nat.reduceAdd, Nat.reduceEqDiff, Nat.reduceLeDiff, true_and, List.length_map, len_row, one_row, E.enc_mk, ba_beqL, List.take_succ_cons, List.take_zero, h135]
                    try simp [upd_at, h135, List.length_map, len_row, one_row, E.enc_mk, ba_beqL]
                simp only [List.drop_succ_cons, List.drop_zero, List.set_cons_zero, List.set_cons_succ]
                refine AOps.cut false 5 2 (.val (.bool ((((nameM s) && (n == 0)) && (o == 0)) && (decide (((l.length : Nat) : Int) ≤ 1000))))) (by rfl) ?_ ?_
                · skip
                  cases h140 : ((((nameM s) && (n == 0)) && (o == 0)))
                  · skip
                    simp only [go_sem, Nat.reduceAdd, Nat.reduceEqDiff, Nat.reduceLeDiff, true_and, List.length_map, len_row, one_row, E.enc_mk, ba_beqL, List.take_succ_cons, List.take_zero, h140]
                    try simp [upd_at, h140, List.length_map, len_row, one_row, E.enc_mk, ba_beqL]
                  · skip
                    simp only [go_sem, Nat.reduceAdd, Nat.reduceEqDiff, Nat.reduceLeDiff, true_and, List.length_map, len_row, one_row, E.enc_mk, ba_beqL, List.take_succ_cons, List.take_zero, h140]
                    try simp [upd_at, h140, List.length_map, len_row, one_row, E.enc_mk, ba_beqL]
                simp only [List.drop_succ_cons, List.drop_zero, List.set_cons_zero, List.set_cons_succ]
                refine AOps.nil (hK19 _ _ ?_); try clear hK19 K19
                refine AW.ret ⟨.inr rfl, _, rfl, by simp, ?_⟩ -- return 7
                refine frzB ?_
                simp only [A.single, hc18, hc37, hc61, hc80, hc97, hc114, hc126, if_true, if_false, Bool.false_eq_true]
              · skip
                refine AW.skip ?_
                refine hK3 _ _ ?_; try clear hK3 K3
                refine AW.regl false [2] (by rfl) fun K20 hK20 => ?_ -- region 18
                simp only [go_sem, Nat.reduceAdd, Nat.reduceEqDiff, Nat.reduceLeDiff, true_and, List.length_map, len_row, one_row, E.enc_mk, ba_beqL]
                refine hK20 _ _ ?_; try clear hK20 K20
                conv => enter [5]; simp only [setL_cons, setL_nil, List.set_cons_zero, List.set_cons_succ]
                refine AW.ret ⟨.inr rfl, _, rfl, by simp, ?_⟩ -- return 8
                refine frzB ?_
                simp only [A.single, hc18, hc37, hc61, hc80, hc97, hc114, hc126, if_true, if_false, Bool.false_eq_true]
theorem rsize_calls : ∀ e : E, e.size < 9223372036854775808 → APure prog Γ 5 [e.enc] (i64 (e.size : Nat)) := E.ind fun k o n s nl l ih hz => size_step k o n s nl l (by simpa [E.size] using hz) fun e he => ih e he (by have := size_mem he; simp only [E.size] at hz; omega)
theorem rdepth_calls : ∀ e : E, e.size < 9223372036854775808 → APure prog Γ 22 [e.enc] (i64 (e.depth : Nat)) := E.ind fun k o n s nl l ih hz => rdepth_step k o n s nl l (by simpa [E.size] using hz) fun e he => ih e he (by have := size_mem he; simp only [E.size] at hz; omega)
theorem depth_calls : ∀ e : E, e.size < 9223372036854775808 → APure prog Γ 42 [e.enc] (i64 (e.depth : Nat)) := E.ind fun k o n s nl l ih hz => depth_step k o n s nl l (by simpa [E.size] using hz) fun e he => ih e he (by have := size_mem he; simp only [E.size] at hz; omega)
theorem own_calls : ∀ e : E, e.size ≤ 2000000 → APure prog Γ 13 [e.enc] e.norm.enc := E.ind fun k o n s nl l ih hz => by
  have hl := length_sizeL l
  simp only [E.size] at hz
  exact own_step k o n s nl l (by omega) fun e he => ih e he (by have := size_mem he; omega)
end A
end Go.Proofs.Tryd
/-! Expressions: whether they may be; walks. -/
namespace Go.Proofs.Tryd
set_option linter.unusedSimpArgs false
set_option linter.unusedVariables false
open Go Go.Proofs.Ev
namespace A
variable {Γ : List (Nat × List AV)}
theorem rs0 {k o n : Int} {s : ByteArray} {c : Int} (h : (k == 0) = true) (ha : (decide (k > 1) && (n != 0)) = false) (hb : (((k != 2) && (k != 6)) && !decide (s = ⟨#[]⟩)) = false) (hc : (((k != 3) && (k != 4)) && (o != 0)) = false) (hd : decide (o < 0) = false) (he : decide (n < 0) = false) : (c == 0) = A.single k o n s c := by
  have h : k = 0 := by simpa using h
  subst h
  unfold A.single
  simp only [bne_iff_ne, Bool.and_eq_false_iff, decide_eq_false_iff_not] at ha hb hc hd he
  simp at ha hb hc hd he
  generalize nameM s = b at *
  rw [Bool.eq_iff_iff]
  by_cases hs : s = ⟨#[]⟩
  · simp [hs] <;> (try cases b) <;> (try simp) <;> omega
  · simp [hs] at hb ⊢ <;> (try cases b) <;> (try simp) <;> omega
theorem rs1 {k o n : Int} {s : ByteArray} {c : Int} (h : (k == 1) = true) (ha : (decide (k > 1) && (n != 0)) = false) (hb : (((k != 2) && (k != 6)) && !decide (s = ⟨#[]⟩)) = false) (hc : (((k != 3) && (k != 4)) && (o != 0)) = false) (hd : decide (o < 0) = false) (he : decide (n < 0) = false) : ((c == 0) && decide (n ≤ 1)) = A.single k o n s c := by
  have h : k = 1 := by simpa using h
  subst h
  unfold A.single
  simp only [bne_iff_ne, Bool.and_eq_false_iff, decide_eq_false_iff_not] at ha hb hc hd he
  simp at ha hb hc hd he
  generalize nameM s = b at *
  rw [Bool.eq_iff_iff]
  by_cases hs : s = ⟨#[]⟩
  · simp [hs] <;> (try cases b) <;> (try simp) <;> omega
  · simp [hs] at hb ⊢ <;> (try cases b) <;> (try simp) <;> omega
theorem rs2 {k o n : Int} {s : ByteArray} {c : Int} (h : (k == 2) = true) (ha : (decide (k > 1) && (n != 0)) = false) (hb : (((k != 2) && (k != 6)) && !decide (s = ⟨#[]⟩)) = false) (hc : (((k != 3) && (k != 4)) && (o != 0)) = false) (hd : decide (o < 0) = false) (he : decide (n < 0) = false) : ((c == 0) && nameM s) = A.single k o n s c := by
  have h : k = 2 := by simpa using h
  subst h
  unfold A.single
  simp only [bne_iff_ne, Bool.and_eq_false_iff, decide_eq_false_iff_not] at ha hb hc hd he
  simp at ha hb hc hd he
  generalize nameM s = b at *
  rw [Bool.eq_iff_iff]
  by_cases hs : s = ⟨#[]⟩
  · simp [hs] <;> (try cases b) <;> (try simp) <;> omega
  · simp [hs] at hb ⊢ <;> (try cases b) <;> (try simp) <;> omega
theorem rs3 {k o n : Int} {s : ByteArray} {c : Int} (h : (k == 3) = true) (ha : (decide (k > 1) && (n != 0)) = false) (hb : (((k != 2) && (k != 6)) && !decide (s = ⟨#[]⟩)) = false) (hc : (((k != 3) && (k != 4)) && (o != 0)) = false) (hd : decide (o < 0) = false) (he : decide (n < 0) = false) : ((c == 1) && decide (o ≤ 2)) = A.single k o n s c := by
  have h : k = 3 := by simpa using h
  subst h
  unfold A.single
  simp only [bne_iff_ne, Bool.and_eq_false_iff, decide_eq_false_iff_not] at ha hb hc hd he
  simp at ha hb hc hd he
  generalize nameM s = b at *
  rw [Bool.eq_iff_iff]
  by_cases hs : s = ⟨#[]⟩
  · simp [hs] <;> (try cases b) <;> (try simp) <;> omega
  · simp [hs] at hb ⊢ <;> (try cases b) <;> (try simp) <;> omega
theorem rs4 {k o n : Int} {s : ByteArray} {c : Int} (h : (k == 4) = true) (ha : (decide (k > 1) && (n != 0)) = false) (hb : (((k != 2) && (k != 6)) && !decide (s = ⟨#[]⟩)) = false) (hc : (((k != 3) && (k != 4)) && (o != 0)) = false) (hd : decide (o < 0) = false) (he : decide (n < 0) = false) : ((c == 2) && decide (o ≤ 15)) = A.single k o n s c := by
  have h : k = 4 := by simpa using h
  subst h
  unfold A.single
  simp only [bne_iff_ne, Bool.and_eq_false_iff, decide_eq_false_iff_not] at ha hb hc hd he
  simp at ha hb hc hd he
  generalize nameM s = b at *
  rw [Bool.eq_iff_iff]
  by_cases hs : s = ⟨#[]⟩
  · simp [hs] <;> (try cases b) <;> (try simp) <;> omega
  · simp [hs] at hb ⊢ <;> (try cases b) <;> (try simp) <;> omega
theorem rs5 {k o n : Int} {s : ByteArray} {c : Int} (h : (k == 5) = true) (ha : (decide (k > 1) && (n != 0)) = false) (hb : (((k != 2) && (k != 6)) && !decide (s = ⟨#[]⟩)) = false) (hc : (((k != 3) && (k != 4)) && (o != 0)) = false) (hd : decide (o < 0) = false) (he : decide (n < 0) = false) : (c == 3) = A.single k o n s c := by
  have h : k = 5 := by simpa using h
  subst h
  unfold A.single
  simp only [bne_iff_ne, Bool.and_eq_false_iff, decide_eq_false_iff_not] at ha hb hc hd he
  simp at ha hb hc hd he
  generalize nameM s = b at *
  rw [Bool.eq_iff_iff]
  by_cases hs : s = ⟨#[]⟩
  · simp [hs] <;> (try cases b) <;> (try simp) <;> omega
  · simp [hs] at hb ⊢ <;> (try cases b) <;> (try simp) <;> omega
theorem rs6 {k o n : Int} {s : ByteArray} {c : Int} (h : (k == 6) = true) (ha : (decide (k > 1) && (n != 0)) = false) (hb : (((k != 2) && (k != 6)) && !decide (s = ⟨#[]⟩)) = false) (hc : (((k != 3) && (k != 4)) && (o != 0)) = false) (hd : decide (o < 0) = false) (he : decide (n < 0) = false) : (decide (c ≤ 1000) && nameM s) = A.single k o n s c := by
  have h : k = 6 := by simpa using h
  subst h
  unfold A.single
  simp only [bne_iff_ne, Bool.and_eq_false_iff, decide_eq_false_iff_not] at ha hb hc hd he
  simp at ha hb hc hd he
  generalize nameM s = b at *
  rw [Bool.eq_iff_iff]
  by_cases hs : s = ⟨#[]⟩
  · simp [hs] <;> (try cases b) <;> (try simp) <;> omega
  · simp [hs] at hb ⊢ <;> (try cases b) <;> (try simp) <;> omega
theorem rs7 {k o n : Int} {s : ByteArray} {c : Int} (h0 : (k == 0) = false) (h1 : (k == 1) = false) (h2 : (k == 2) = false) (h3 : (k == 3) = false) (h4 : (k == 4) = false) (h5 : (k == 5) = false) (h6 : (k == 6) = false) : false = A.single k o n s c := by
  simp only [A.single, h0, h1, h2, h3, h4, h5, h6, Bool.false_eq_true, if_false]
theorem cells_bel (e : E) (n : Nat) : AO.bel n (.cells e.enc.cells) = true := by
  obtain ⟨a, b, c, d, r, h⟩ := enc_cells e
  have := enc_bel n e
  rw [h] at this ⊢
  exact this
set_option maxRecDepth 100000 in
theorem rshape_step (k o n : Int) (s : ByteArray) (nl : Bool) (l : List E) (hl : l.length ≤ maxLen) (hs : s.size ≤ 1000000000) (ih : ∀ e ∈ l, APure prog Γ 21 [e.enc] (bool e.shape)) : APure prog Γ 21 [(E.mk k o n s nl l).enc] (bool (E.mk k o n s nl l).shape) := by
  refine APure.of func21 rfl fun σ => ?_
  simp only [ntmps21, List.length_cons, List.length_nil, Nat.reduceAdd, Nat.reduceSub, List.replicate_succ, List.replicate_zero, List.cons_append, List.nil_append]
  rw [E.enc_mk]
  refine AW.regl false [1, 2] (by rfl) fun K1 hK1 => ?_ -- region 0
  simp only [go_sem, Nat.reduceAdd, Nat.reduceEqDiff, Nat.reduceLeDiff, true_and, List.length_map, len_row, one_row, E.enc_mk, ba_beqL]
  refine hK1 _ _ ?_; try clear hK1 K1
  conv => enter [5]; simp only [setL_cons, setL_nil, List.set_cons_zero, List.set_cons_succ]
  refine AW.seq_k fun K2 hK2 => ?_
  refine AW.regl false [3] (by rfl) fun K3 hK3 => ?_ -- region 1
  simp only [go_sem, Nat.reduceAdd, Nat.reduceEqDiff, Nat.reduceLeDiff, true_and, List.length_map, len_row, one_row, E.enc_mk, ba_beqL]
  refine hK3 _ _ ?_; try clear hK3 K3
  conv => enter [5]; simp only [setL_cons, setL_nil, List.set_cons_zero, List.set_cons_succ]
  refine AW.block ?_
  refine AW.loop_wk (α := Nat) (fun i => [.any, (.ref σ.length 0), .any, (.val (.int .i64 ((i : Nat) : Int))), .any, .any, .any, .any, .any, .any, .any, .any, .any, .any, .any, .any, .any, .any, .any, .any, .any, .any, .any, .any, .any, .any, .any, .any, .any, .any, .any, .any, .any, .any, .any, .any, .any, .any, .any, .any, .any, .any, .any, .any, .any, .any, .any, .any, .any, .any, .any, .any, .any, .any, .any, .any, .any, .any, .any, .any, .any, .any, .any, .any, .any, .any, .any, .any, .any, .any, .any, .any, .any, .any, .any, .any, .any, .any, .any, .any, .any, .any, .any, .any, .any, .any, .any, .any, .any, .any, .any, .any, .any, .any, .any, .any, .any, .any, .any, .any, .any, .any, .any, .any, .any, .any, .any, .any, .any, .any, .any, .any, .any, .any, .any, .any, .any, .any, .any, .any, .any, .any, .any, .any, .any]) (fun i => σ ++ [.cells [.val (.int .i64 k), .val (.int .i64 o), .val (.int .i64 n), .val (.string s), rowAV 5 nl (l.map E.enc)]]) (fun i => l.length - i) (fun i => i ≤ l.length ∧ (l.take i).all E.shape = true) 0 ?_ ?_
  · exact ⟨⟨Nat.zero_le _, rfl⟩, by simp [Wk], rfl⟩
  · rintro i ⟨hi, hit⟩
    refine AW.seq_k fun K4 hK4 => ?_
    refine AW.regl false [9] (by rfl) fun K5 hK5 => ?_ -- region 2
    simp only [go_sem, Nat.reduceAdd, Nat.reduceEqDiff, Nat.reduceLeDiff, true_and, List.length_map, len_row, one_row, E.enc_mk, ba_beqL]
    refine hK5 _ _ ?_; try clear hK5 K5
    conv => enter [5]; simp only [setL_cons, setL_nil, List.set_cons_zero, List.set_cons_succ]
    refine AW.cond rfl (fun hc9 => ?_) (fun hc9 => ?_)
    · skip
      have hi1 : i < l.length := by simpa using hc9
      have hx : (l.map E.enc)[i]? = some (E.enc (l[i])) := by rw [List.getElem?_map, List.getElem?_eq_getElem hi1]; rfl
      refine AW.skip ?_
      refine hK4 _ _ ?_; try clear hK4 K4
      refine AW.seq_k fun K6 hK6 => ?_
      refine AW.block ?_
      refine AW.regl false [18] (by rfl) fun K7 hK7 => ?_ -- region 4
      simp only [go_sem, Nat.reduceAdd, Nat.reduceEqDiff, Nat.reduceLeDiff, true_and, List.length_map, len_row, one_row, E.enc_mk, ba_beqL, at_row hx, enc_get43]
      refine sC.of en21 ((ih _ (mem_at hi1)).on _).here (by rfl) ?_
      simp only [go_sem, Nat.reduceAdd, Nat.reduceEqDiff, Nat.reduceLeDiff, true_and, List.length_map, len_row, one_row, E.enc_mk, ba_beqL, at_row hx, enc_get43]
      refine hK7 _ _ ?_; try clear hK7 K7
      conv => enter [5]; simp only [setL_cons, setL_nil, List.set_cons_zero, List.set_cons_succ]
      refine AW.cond rfl (fun hc18 => ?_) (fun hc18 => ?_)
      · skip
        refine AW.regl false [2] (by rfl) fun K8 hK8 => ?_ -- region 5
        simp only [go_sem, Nat.reduceAdd, Nat.reduceEqDiff, Nat.reduceLeDiff, true_and, List.length_map, len_row, one_row, E.enc_mk, ba_beqL]
        refine hK8 _ _ ?_; try clear hK8 K8
        conv => enter [5]; simp only [setL_cons, setL_nil, List.set_cons_zero, List.set_cons_succ]
        refine AW.ret ⟨.inr rfl, _, rfl, by simp, ?_⟩ -- return 1
        refine frzB ?_
        simp only [E.shape, shapeL_all, all_at hi1 (show (l[i]).shape = false by simpa using hc18), Bool.false_and]
      · skip
        refine AW.skip ?_
        refine hK6 _ _ ?_; try clear hK6 K6
        refine AW.lastl false [3] (by rfl) fun K hK => ?_ -- region 3
        simp only [go_sem, Nat.reduceAdd, Nat.reduceEqDiff, Nat.reduceLeDiff, true_and, List.length_map, len_row, one_row, E.enc_mk, ba_beqL]
        refine hK _ _ fun env' hw => ?_
        simp only [setL_cons, setL_nil, List.set_cons_zero, List.set_cons_succ] at hw
        refine ⟨i + 1, by omega, ⟨by omega, all_step hi1 hit (by simpa using hc18)⟩, ?_, rfl⟩
        refine hw.trans ?_
        simp [Wk, wrap_succ hi1 hl]
        try omega
    · skip
      have hi1 : i = l.length := by
        have : ¬ i < l.length := by simpa using hc9
        omega
      have hall : l.all E.shape = true := all_end (by omega) hit
      refine AW.exit ?_
      refine hK2 _ _ ?_; try clear hK2 K2
      refine AW.seq_k fun K9 hK9 => ?_
      refine AW.regcuts fun K10 hK10 => ?_ -- region 6
      refine AOps.cut false 8 26 (.val (.bool ((decide (k > 1)) && (n != 0)))) (by rfl) ?_ ?_
      · skip
        cases h21 : ((decide (k > 1)))
        · skip
          simp only [go_sem, Nat.reduceAdd, Nat.reduceEqDiff, Nat.reduceLeDiff, true_and, List.length_map, len_row, one_row, E.enc_mk, ba_beqL, rtoo, List.take_succ_cons, List.take_zero, h21]
          try simp [upd_at, h21, List.length_map, len_row, one_row, E.enc_mk, ba_beqL, rtoo]
        · skip
          simp only [go_sem, Nat.reduceAdd, Nat.reduceEqDiff, Nat.reduceLeDiff, true_and, List.length_map, len_row, one_row, E.enc_mk, ba_beqL, rtoo, List.take_succ_cons, List.take_zero, h21]
          try simp [upd_at, h21, List.length_map, len_row, one_row, E.enc_mk, ba_beqL, rtoo]
      simp only [List.drop_succ_cons, List.drop_zero, List.set_cons_zero, List.set_cons_succ]
      refine AOps.cut false 15 41 (.val (.bool (((decide (k > 1)) && (n != 0)) || (((k != 2) && (k != 6)) && (!decide (s = ⟨#[]⟩)))))) (by rfl) ?_ ?_
      · skip
        cases h26 : (((decide (k > 1)) && (n != 0)))
        · skip
          cases h30 : ((k != 2))
          · skip
            simp only [go_sem, Nat.reduceAdd, Nat.reduceEqDiff, Nat.reduceLeDiff, true_and, List.length_map, len_row, one_row, E.enc_mk, ba_beqL, rtoo, List.take_succ_cons, List.take_zero, h26, h30]
            try simp [upd_at, h26, h30, List.length_map, len_row, one_row, E.enc_mk, ba_beqL, rtoo]
          · skip
            cases h34 : ((k != 6))
            · skip
              simp only [go_sem, Nat.reduceAdd, Nat.reduceEqDiff, Nat.reduceLeDiff, true_and, List.length_map, len_row, one_row, E.enc_mk, ba_beqL, rtoo, List.take_succ_cons, List.take_zero, h26, h30, h34]
              try simp [upd_at, h26, h30, h34, List.length_map, len_row, one_row, E.enc_mk, ba_beqL, rtoo]
            · skip
              simp only [go_sem, Nat.reduceAdd, Nat.reduceEqDiff, Nat.reduceLeDiff, true_and, List.length_map, len_row, one_row, E.enc_mk, ba_beqL, rtoo, List.take_succ_cons, List.take_zero, h26, h30, h34]
              try simp [upd_at, h26, h30, h34, List.length_map, len_row, one_row, E.enc_mk, ba_beqL, rtoo]
        · skip
          simp only [go_sem, Nat.reduceAdd, Nat.reduceEqDiff, Nat.reduceLeDiff, true_and, List.length_map, len_row, one_row, E.enc_mk, ba_beqL, rtoo, List.take_succ_cons, List.take_zero, h26]
          try simp [upd_at, h26, List.length_map, len_row, one_row, E.enc_mk, ba_beqL, rtoo]
      simp only [List.drop_succ_cons, List.drop_zero, List.set_cons_zero, List.set_cons_succ]
      refine AOps.cut false 15 56 (.val (.bool ((((decide (k > 1)) && (n != 0)) || (((k != 2) && (k != 6)) && (!decide (s = ⟨#[]⟩)))) || (((k != 3) && (k != 4)) && (o != 0))))) (by rfl) ?_ ?_
      · skip
        cases h41 : ((((decide (k > 1)) && (n != 0)) || (((k != 2) && (k != 6)) && (!decide (s = ⟨#[]⟩)))))
        · skip
          cases h45 : ((k != 3))
          · skip
            simp only [go_sem, Nat.reduceAdd, Nat.reduceEqDiff, Nat.reduceLeDiff, true_and, List.length_map, len_row, one_row, E.enc_mk, ba_beqL, rtoo, List.take_succ_cons, List.take_zero, h41, h45]
            try simp [upd_at, h41, h45, List.length_map, len_row, one_row, E.enc_mk, ba_beqL, rtoo]
          · skip
            cases h49 : ((k != 4))
            · skip
              simp only [go_sem, Nat.reduceAdd, Nat.reduceEqDiff, Nat.reduceLeDiff, true_and, List.length_map, len_row, one_row, E.enc_mk, ba_beqL, rtoo, List.take_succ_cons, List.take_zero, h41, h45, h49]
              try simp [upd_at, h41, h45, h49, List.length_map, len_row, one_row, E.enc_mk, ba_beqL, rtoo]
            · skip
              simp only [go_sem, Nat.reduceAdd, Nat.reduceEqDiff, Nat.reduceLeDiff, true_and, List.length_map, len_row, one_row, E.enc_mk, ba_beqL, rtoo, List.take_succ_cons, List.take_zero, h41, h45, h49]
              try simp [upd_at, h41, h45, h49, List.length_map, len_row, one_row, E.enc_mk, ba_beqL, rtoo]
        · skip
          simp only [go_sem, Nat.reduceAdd, Nat.reduceEqDiff, Nat.reduceLeDiff, true_and, List.length_map, len_row, one_row, E.enc_mk, ba_beqL, rtoo, List.take_succ_cons, List.take_zero, h41]
          try simp [upd_at, h41, List.length_map, len_row, one_row, E.enc_mk, ba_beqL, rtoo]
      simp only [List.drop_succ_cons, List.drop_zero, List.set_cons_zero, List.set_cons_succ]
      refine AOps.cut false 5 61 (.val (.bool (((((decide (k > 1)) && (n != 0)) || (((k != 2) && (k != 6)) && (!decide (s = ⟨#[]⟩)))) || (((k != 3) && (k != 4)) && (o != 0))) || (decide (o < 0))))) (by rfl) ?_ ?_
      · skip
        cases h56 : (((((decide (k > 1)) && (n != 0)) || (((k != 2) && (k != 6)) && (!decide (s = ⟨#[]⟩)))) || (((k != 3) && (k != 4)) && (o != 0))))
        · skip
          simp only [go_sem, Nat.reduceAdd, Nat.reduceEqDiff, Nat.reduceLeDiff, true_and, List.length_map, len_row, one_row, E.enc_mk, ba_beqL, rtoo, List.take_succ_cons, List.take_zero, h56]
          try simp [upd_at, h56, List.length_map, len_row, one_row, E.enc_mk, ba_beqL, rtoo]
        · skip
          simp only [go_sem, Nat.reduceAdd, Nat.reduceEqDiff, Nat.reduceLeDiff, true_and, List.length_map, len_row, one_row, E.enc_mk, ba_beqL, rtoo, List.take_succ_cons, List.take_zero, h56]
          try simp [upd_at, h56, List.length_map, len_row, one_row, E.enc_mk, ba_beqL, rtoo]
      simp only [List.drop_succ_cons, List.drop_zero, List.set_cons_zero, List.set_cons_succ]
      refine AOps.cut false 5 66 (.val (.bool (rtoo k o n s))) (by rfl) ?_ ?_
      · skip
        cases h61 : ((((((decide (k > 1)) && (n != 0)) || (((k != 2) && (k != 6)) && (!decide (s = ⟨#[]⟩)))) || (((k != 3) && (k != 4)) && (o != 0))) || (decide (o < 0))))
        · skip
          simp only [go_sem, Nat.reduceAdd, Nat.reduceEqDiff, Nat.reduceLeDiff, true_and, List.length_map, len_row, one_row, E.enc_mk, ba_beqL, rtoo, List.take_succ_cons, List.take_zero, h61]
          try simp [upd_at, h61, List.length_map, len_row, one_row, E.enc_mk, ba_beqL, rtoo]
        · skip
          simp only [go_sem, Nat.reduceAdd, Nat.reduceEqDiff, Nat.reduceLeDiff, true_and, List.length_map, len_row, one_row, E.enc_mk, ba_beqL, rtoo, List.take_succ_cons, List.take_zero, h61]
          try simp [upd_at, h61, List.length_map, len_row, one_row, E.enc_mk, ba_beqL, rtoo]
      simp only [List.drop_succ_cons, List.drop_zero, List.set_cons_zero, List.set_cons_succ]
      refine AOps.nil (hK10 _ _ ?_); try clear hK10 K10
      refine AW.cond rfl (fun hc66 => ?_) (fun hc66 => ?_)
      · skip
        refine AW.regl false [2] (by rfl) fun K11 hK11 => ?_ -- region 7
        simp only [go_sem, Nat.reduceAdd, Nat.reduceEqDiff, Nat.reduceLeDiff, true_and, List.length_map, len_row, one_row, E.enc_mk, ba_beqL]
        refine hK11 _ _ ?_; try clear hK11 K11
        conv => enter [5]; simp only [setL_cons, setL_nil, List.set_cons_zero, List.set_cons_succ]
        refine AW.ret ⟨.inr rfl, _, rfl, by simp, ?_⟩ -- return 2
        refine frzB ?_
        simp only [E.shape, single_too hc66, Bool.and_false]
      · skip
        unfold rtoo at hc66
        simp only [Bool.or_eq_false_iff] at hc66
        obtain ⟨⟨⟨⟨ha, hb⟩, hc⟩, hd⟩, he⟩ := hc66
        refine AW.skip ?_
        refine hK9 _ _ ?_; try clear hK9 K9
        refine AW.regl false [4] (by rfl) fun K12 hK12 => ?_ -- region 8
        simp only [go_sem, Nat.reduceAdd, Nat.reduceEqDiff, Nat.reduceLeDiff, true_and, List.length_map, len_row, one_row, E.enc_mk, ba_beqL]
        refine hK12 _ _ ?_; try clear hK12 K12
        conv => enter [5]; simp only [setL_cons, setL_nil, List.set_cons_zero, List.set_cons_succ]
        refine AW.seq_k fun K13 hK13 => ?_
        refine AW.regl false [71] (by rfl) fun K14 hK14 => ?_ -- region 9
        simp only [go_sem, Nat.reduceAdd, Nat.reduceEqDiff, Nat.reduceLeDiff, true_and, List.length_map, len_row, one_row, E.enc_mk, ba_beqL]
        refine hK14 _ _ ?_; try clear hK14 K14
        conv => enter [5]; simp only [setL_cons, setL_nil, List.set_cons_zero, List.set_cons_succ]
        refine AW.block ?_
        refine AW.regl false [72] (by rfl) fun K15 hK15 => ?_ -- region 10
        simp only [go_sem, Nat.reduceAdd, Nat.reduceEqDiff, Nat.reduceLeDiff, true_and, List.length_map, len_row, one_row, E.enc_mk, ba_beqL]
        refine hK15 _ _ ?_; try clear hK15 K15
        conv => enter [5]; simp only [setL_cons, setL_nil, List.set_cons_zero, List.set_cons_succ]
        refine AW.cond rfl (fun hc72 => ?_) (fun hc72 => ?_)
        · skip
          refine AW.regl false [2] (by rfl) fun K16 hK16 => ?_ -- region 11
          simp only [go_sem, Nat.reduceAdd, Nat.reduceEqDiff, Nat.reduceLeDiff, true_and, List.length_map, len_row, one_row, E.enc_mk, ba_beqL]
          refine hK16 _ _ ?_; try clear hK16 K16
          conv => enter [5]; simp only [setL_cons, setL_nil, List.set_cons_zero, List.set_cons_succ]
          refine AW.ret ⟨.inr rfl, _, rfl, by simp, ?_⟩ -- return 3
          refine frzB ?_
          simp only [E.shape, shapeL_all, hall, Bool.true_and]
          exact rs0 (by assumption) ha hb hc hd he
        · skip
          refine AW.regl false [76] (by rfl) fun K17 hK17 => ?_ -- region 12
          simp only [go_sem, Nat.reduceAdd, Nat.reduceEqDiff, Nat.reduceLeDiff, true_and, List.length_map, len_row, one_row, E.enc_mk, ba_beqL]
          refine hK17 _ _ ?_; try clear hK17 K17
          conv => enter [5]; simp only [setL_cons, setL_nil, List.set_cons_zero, List.set_cons_succ]
          refine AW.cond rfl (fun hc76 => ?_) (fun hc76 => ?_)
          · skip
            refine AW.regtf false 2 (.val (.bool ((((l.length : Nat) : Int) == 0) && (decide (n ≤ 1))))) (by rfl) ?_ ?_ -- region 13
            · skip
              cases h79 : ((((l.length : Nat) : Int) == 0))
              · skip
                simp only [go_sem, Nat.reduceAdd, Nat.reduceEqDiff, Nat.reduceLeDiff, true_and, List.length_map, len_row, one_row, E.enc_mk, ba_beqL, h79]
                try simp [upd_at, h79, List.length_map, len_row, one_row, E.enc_mk, ba_beqL]
              · skip
                simp only [go_sem, Nat.reduceAdd, Nat.reduceEqDiff, Nat.reduceLeDiff, true_and, List.length_map, len_row, one_row, E.enc_mk, ba_beqL, h79]
                try simp [upd_at, h79, List.length_map, len_row, one_row, E.enc_mk, ba_beqL]
            conv => enter [5]; simp only [List.set_cons_zero, List.set_cons_succ]
            refine AW.ret ⟨.inr rfl, _, rfl, by simp, ?_⟩ -- return 4
            refine frzB ?_
            simp only [E.shape, shapeL_all, hall, Bool.true_and]
            exact rs1 (by assumption) ha hb hc hd he
          · skip
            refine AW.regl false [85] (by rfl) fun K19 hK19 => ?_ -- region 14
            simp only [go_sem, Nat.reduceAdd, Nat.reduceEqDiff, Nat.reduceLeDiff, true_and, List.length_map, len_row, one_row, E.enc_mk, ba_beqL]
            refine hK19 _ _ ?_; try clear hK19 K19
            conv => enter [5]; simp only [setL_cons, setL_nil, List.set_cons_zero, List.set_cons_succ]
            refine AW.cond rfl (fun hc85 => ?_) (fun hc85 => ?_)
            · skip
              refine AW.regtf false 2 (.val (.bool ((((l.length : Nat) : Int) == 0) && (nameM s)))) (by rfl) ?_ ?_ -- region 15
              · skip
                cases h88 : ((((l.length : Nat) : Int) == 0))
                · skip
                  simp only [go_sem, Nat.reduceAdd, Nat.reduceEqDiff, Nat.reduceLeDiff, true_and, List.length_map, len_row, one_row, E.enc_mk, ba_beqL, h88]
                  try simp [upd_at, h88, List.length_map, len_row, one_row, E.enc_mk, ba_beqL]
                · skip
                  simp only [go_sem, Nat.reduceAdd, Nat.reduceEqDiff, Nat.reduceLeDiff, true_and, List.length_map, len_row, one_row, E.enc_mk, ba_beqL, h88]
                  refine sC.of en37 ((rname_calls s (by omega)).on _).here (by rfl) ?_
                  simp only [go_sem, Nat.reduceAdd, Nat.reduceEqDiff, Nat.reduceLeDiff, true_and, List.length_map, len_row, one_row, E.enc_mk, ba_beqL, h88]
                  try simp [upd_at, h88, List.length_map, len_row, one_row, E.enc_mk, ba_beqL]
              conv => enter [5]; simp only [List.set_cons_zero, List.set_cons_succ]
              refine AW.ret ⟨.inr rfl, _, rfl, by simp, ?_⟩ -- return 5
              refine frzB ?_
              simp only [E.shape, shapeL_all, hall, Bool.true_and]
              exact rs2 (by assumption) ha hb hc hd he
            · skip
              refine AW.regl false [94] (by rfl) fun K21 hK21 => ?_ -- region 16
              simp only [go_sem, Nat.reduceAdd, Nat.reduceEqDiff, Nat.reduceLeDiff, true_and, List.length_map, len_row, one_row, E.enc_mk, ba_beqL]
              refine hK21 _ _ ?_; try clear hK21 K21
              conv => enter [5]; simp only [setL_cons, setL_nil, List.set_cons_zero, List.set_cons_succ]
              refine AW.cond rfl (fun hc94 => ?_) (fun hc94 => ?_)
              · skip
                refine AW.regtf false 2 (.val (.bool ((((l.length : Nat) : Int) == 1) && (decide (o ≤ 2))))) (by rfl) ?_ ?_ -- region 17
                · skip
                  cases h97 : ((((l.length : Nat) : Int) == 1))
                  · skip
                    simp only [go_sem, Nat.reduceAdd, Nat.reduceEqDiff, Nat.reduceLeDiff, true_and, List.length_map, len_row, one_row, E.enc_mk, ba_beqL, h97]
                    try simp [upd_at, h97, List.length_map, len_row, one_row, E.enc_mk, ba_beqL]
                  · skip
                    simp only [go_sem, Nat.reduceAdd, Nat.reduceEqDiff, Nat.reduceLeDiff, true_and, List.length_map, len_row, one_row, E.enc_mk, ba_beqL, h97]
                    try simp [upd_at, h97, List.length_map, len_row, one_row, E.enc_mk, ba_beqL]
                conv => enter [5]; simp only [List.set_cons_zero, List.set_cons_succ]
                refine AW.ret ⟨.inr rfl, _, rfl, by simp, ?_⟩ -- return 6
                refine frzB ?_
                simp only [E.shape, shapeL_all, hall, Bool.true_and]
                exact rs3 (by assumption) ha hb hc hd he
              · skip
                refine AW.regl false [103] (by rfl) fun K23 hK23 => ?_ -- region 18
                simp only [go_sem, Nat.reduceAdd, Nat.reduceEqDiff, Nat.reduceLeDiff, true_and, List.length_map, len_row, one_row, E.enc_mk, ba_beqL]
                refine hK23 _ _ ?_; try clear hK23 K23
                conv => enter [5]; simp only [setL_cons, setL_nil, List.set_cons_zero, List.set_cons_succ]
                refine AW.cond rfl (fun hc103 => ?_) (fun hc103 => ?_)
                · skip
                  refine AW.regtf false 2 (.val (.bool ((((l.length : Nat) : Int) == 2) && (decide (o ≤ 15))))) (by rfl) ?_ ?_ -- region 19
                  · skip
                    cases h106 : ((((l.length : Nat) : Int) == 2))
                    · skip
                      simp only [go_sem, Nat.reduceAdd, Nat.reduceEqDiff, Nat.reduceLeDiff, true_and, List.length_map, len_row, one_row, E.enc_mk, ba_beqL, h106]
                      try simp [upd_at, h106, List.length_map, len_row, one_row, E.enc_mk, ba_beqL]
                    · skip
                      simp only [go_sem, Nat.reduceAdd, Nat.reduceEqDiff, Nat.reduceLeDiff, true_and, List.length_map, len_row, one_row, E.enc_mk, ba_beqL, h106]
                      try simp [upd_at, h106, List.length_map, len_row, one_row, E.enc_mk, ba_beqL]
                  conv => enter [5]; simp only [List.set_cons_zero, List.set_cons_succ]
                  refine AW.ret ⟨.inr rfl, _, rfl, by simp, ?_⟩ -- return 7
                  refine frzB ?_
                  simp only [E.shape, shapeL_all, hall, Bool.true_and]
                  exact rs4 (by assumption) ha hb hc hd he
                · skip
                  refine AW.regl false [112] (by rfl) fun K25 hK25 => ?_ -- region 20
                  simp only [go_sem, Nat.reduceAdd, Nat.reduceEqDiff, Nat.reduceLeDiff, true_and, List.length_map, len_row, one_row, E.enc_mk, ba_beqL]
                  refine hK25 _ _ ?_; try clear hK25 K25
                  conv => enter [5]; simp only [setL_cons, setL_nil, List.set_cons_zero, List.set_cons_succ]
                  refine AW.cond rfl (fun hc112 => ?_) (fun hc112 => ?_)
                  · skip
                    refine AW.regl false [2] (by rfl) fun K26 hK26 => ?_ -- region 21
                    simp only [go_sem, Nat.reduceAdd, Nat.reduceEqDiff, Nat.reduceLeDiff, true_and, List.length_map, len_row, one_row, E.enc_mk, ba_beqL]
                    refine hK26 _ _ ?_; try clear hK26 K26
                    conv => enter [5]; simp only [setL_cons, setL_nil, List.set_cons_zero, List.set_cons_succ]
                    refine AW.ret ⟨.inr rfl, _, rfl, by simp, ?_⟩ -- return 8
                    refine frzB ?_
                    simp only [E.shape, shapeL_all, hall, Bool.true_and]
                    exact rs5 (by assumption) ha hb hc hd he
                  · skip
                    refine AW.regl false [116] (by rfl) fun K27 hK27 => ?_ -- region 22
                    simp only [go_sem, Nat.reduceAdd, Nat.reduceEqDiff, Nat.reduceLeDiff, true_and, List.length_map, len_row, one_row, E.enc_mk, ba_beqL]
                    refine hK27 _ _ ?_; try clear hK27 K27
                    conv => enter [5]; simp only [setL_cons, setL_nil, List.set_cons_zero, List.set_cons_succ]
                    refine AW.cond rfl (fun hc116 => ?_) (fun hc116 => ?_)
                    · skip
                      refine AW.regtf false 2 (.val (.bool ((decide (((l.length : Nat) : Int) ≤ 1000)) && (nameM s)))) (by rfl) ?_ ?_ -- region 23
                      · skip
                        cases h119 : ((decide (((l.length : Nat) : Int) ≤ 1000)))
                        · skip
                          simp only [go_sem, Nat.reduceAdd, Nat.reduceEqDiff, Nat.reduceLeDiff, true_and, List.length_map, len_row, one_row, E.enc_mk, ba_beqL, h119]
                          try simp [upd_at, h119, List.length_map, len_row, one_row, E.enc_mk, ba_beqL]
                        · skip
                          simp only [go_sem, Nat.reduceAdd, Nat.reduceEqDiff, Nat.reduceLeDiff, true_and, List.length_map, len_row, one_row, E.enc_mk, ba_beqL, h119]
                          refine sC.of en37 ((rname_calls s (by omega)).on _).here (by rfl) ?_
                          simp only [go_sem, Nat.reduceAdd, Nat.reduceEqDiff, Nat.reduceLeDiff, true_and, List.length_map, len_row, one_row, E.enc_mk, ba_beqL, h119]
                          try simp [upd_at, h119, List.length_map, len_row, one_row, E.enc_mk, ba_beqL]
                      conv => enter [5]; simp only [List.set_cons_zero, List.set_cons_succ]
                      refine AW.ret ⟨.inr rfl, _, rfl, by simp, ?_⟩ -- return 9
                      refine frzB ?_
                      simp only [E.shape, shapeL_all, hall, Bool.true_and]
                      exact rs6 (by assumption) ha hb hc hd he
                    · skip
                      refine AW.skip ?_
                      refine hK13 _ _ ?_; try clear hK13 K13
                      refine AW.regl false [2] (by rfl) fun K29 hK29 => ?_ -- region 24
                      simp only [go_sem, Nat.reduceAdd, Nat.reduceEqDiff, Nat.reduceLeDiff, true_and, List.length_map, len_row, one_row, E.enc_mk, ba_beqL]
                      refine hK29 _ _ ?_; try clear hK29 K29
                      conv => enter [5]; simp only [setL_cons, setL_nil, List.set_cons_zero, List.set_cons_succ]
                      refine AW.ret ⟨.inr rfl, _, rfl, by simp, ?_⟩ -- return 10
                      refine frzB ?_
                      simp only [E.shape, shapeL_all, hall, Bool.true_and]
                      exact rs7 (by assumption) (by assumption) (by assumption) (by assumption) (by assumption) (by assumption) (by assumption)

theorem fits_name {k o n : Int} {s : ByteArray} {nl : Bool} {l : List E} (h : (E.mk k o n s nl l).fits) : s.size ≤ 1000000000 := h (.mk k o n s nl l) (by simp [E.pre])
theorem preL_mem {e d : E} : ∀ {l : List E}, e ∈ l → d ∈ e.pre → d ∈ preL l
  | a :: l, he, hd => by
    simp only [preL, List.mem_append]
    rcases List.mem_cons.1 he with rfl | he
    · exact .inl hd
    · exact .inr (preL_mem he hd)
theorem fits_kid {k o n : Int} {s : ByteArray} {nl : Bool} {l : List E} (h : (E.mk k o n s nl l).fits) {e : E} (he : e ∈ l) : e.fits := fun d hd => h d (by
  simp only [E.pre]
  exact List.mem_cons_of_mem _ (preL_mem he hd))
theorem rshape_calls : ∀ e : E, e.size < 9223372036854775808 → e.fits → APure prog Γ 21 [e.enc] (bool e.shape) := E.ind fun k o n s nl l ih hz hf => by
  have hl := length_sizeL l
  simp only [E.size] at hz
  exact rshape_step k o n s nl l (by rw [maxLen_eq]; omega) (fits_name hf) fun e he => ih e he (by have := size_mem he; omega) (fits_kid hf he)
set_option maxRecDepth 100000 in
theorem right_expr_calls (e : E) (hsz : e.size < 9223372036854775808) (hft : e.fits) : APure prog Γ 10 [e.enc] (bool (e.shape && decide ((e.depth : Int) ≤ 200))) := by
  refine APure.of func10 rfl fun σ => ?_
  simp only [ntmps10, List.length_cons, List.length_nil, Nat.reduceAdd, Nat.reduceSub, List.replicate_succ, List.replicate_zero, List.cons_append, List.nil_append]
  refine AW.regl false [1, 2] (by rfl) fun K1 hK1 => ?_ -- region 0
  simp only [go_sem, Nat.reduceAdd, Nat.reduceEqDiff, Nat.reduceLeDiff, true_and, enc_one, enc_len, enc_get43, enc_get47, List.drop_zero]
  refine hK1 _ _ ?_; try clear hK1 K1
  conv => enter [5]; simp only [setL_cons, setL_nil, List.set_cons_zero, List.set_cons_succ]
  refine AW.regtf false 2 (.val (.bool (e.shape && (decide (((e.depth : Nat) : Int) ≤ 200))))) (by rfl) ?_ ?_ -- region 1
  · skip
    cases h4 : (e.shape)
    · skip
      simp only [go_sem, Nat.reduceAdd, Nat.reduceEqDiff, Nat.reduceLeDiff, true_and, enc_one, enc_len, enc_get43, enc_get47, List.drop_zero, h4]
      refine sC.of en21 ((rshape_calls e hsz hft).on _).here (by rfl) ?_
      simp only [go_sem, Nat.reduceAdd, Nat.reduceEqDiff, Nat.reduceLeDiff, true_and, enc_one, enc_len, enc_get43, enc_get47, List.drop_zero, h4]
      try simp [upd_at, h4, enc_one, enc_len, enc_get43, enc_get47, List.drop_zero]
    · skip
      simp only [go_sem, Nat.reduceAdd, Nat.reduceEqDiff, Nat.reduceLeDiff, true_and, enc_one, enc_len, enc_get43, enc_get47, List.drop_zero, h4]
      refine sC.of en21 ((rshape_calls e hsz hft).on _).here (by rfl) ?_
      simp only [go_sem, Nat.reduceAdd, Nat.reduceEqDiff, Nat.reduceLeDiff, true_and, enc_one, enc_len, enc_get43, enc_get47, List.drop_zero, h4]
      refine sC.of en22 ((rdepth_calls e hsz).on _).here (by rfl) ?_
      simp only [go_sem, Nat.reduceAdd, Nat.reduceEqDiff, Nat.reduceLeDiff, true_and, enc_one, enc_len, enc_get43, enc_get47, List.drop_zero, h4]
      try simp [upd_at, h4, enc_one, enc_len, enc_get43, enc_get47, List.drop_zero]
  conv => enter [5]; simp only [List.set_cons_zero, List.set_cons_succ]
  refine AW.ret ⟨.inr rfl, _, rfl, by simp, ?_⟩ -- return 1
  exact .keep rfl

theorem row_b (n : Nat) (nl : Bool) (l : List E) : (rowAV 5 nl (l.map E.enc)).bel n = true := row_bel (fun e n => enc_bel n e) n 5 nl l
theorem shut_app {S : Nat → Sto} {k j : Nat} {τ : Sto} (hs : Shut (S 0).length (S k)) (hl : ∀ k, (S k).length = (S 0).length) : ∀ (i : Nat) (a : AO), (S k ++ τ)[i]? = some a → (S j ++ τ)[i]? = some a ∨ a.bel (S j ++ τ).length = true := by
  intro i a hi
  rcases Nat.lt_or_ge i (S k).length with h | h
  · rw [List.getElem?_append_left h] at hi
    exact .inr (bel_le (by simp [hl j]) (hs i a hi))
  · rw [List.getElem?_append_right h] at hi
    rw [List.getElem?_append_right (by rw [hl j, ← hl k]; exact h), hl j, ← hl k]
    exact .inl hi

set_option maxRecDepth 100000 in
theorem walk_fn (σ : Sto) (e : E) : ACalls prog Γ 40 [e.enc] σ (fun v σ' => v = .fn 58 [.ref σ.length 0] ∧ σ' = σ ++ [.cells e.enc.cells]) := by
  refine ACalls.of func40 rfl ?_
  simp only [ntmps40, List.length_cons, List.length_nil, Nat.reduceAdd, Nat.reduceSub, List.replicate_succ, List.replicate_zero, List.cons_append, List.nil_append]
  refine AW.regl false [1, 2] (by rfl) fun K1 hK1 => ?_ -- region 0
  simp only [go_sem, Nat.reduceAdd, Nat.reduceEqDiff, Nat.reduceLeDiff, true_and, enc_one, enc_len, enc_get43, enc_get47, List.drop_zero]
  refine hK1 _ _ ?_; try clear hK1 K1
  conv => enter [5]; simp only [setL_cons, setL_nil, List.set_cons_zero, List.set_cons_succ]
  refine AW.regl false [2] (by rfl) fun K2 hK2 => ?_ -- region 1
  simp only [go_sem, Nat.reduceAdd, Nat.reduceEqDiff, Nat.reduceLeDiff, true_and, enc_one, enc_len, enc_get43, enc_get47, List.drop_zero]
  refine hK2 _ _ ?_; try clear hK2 K2
  conv => enter [5]; simp only [setL_cons, setL_nil, List.set_cons_zero, List.set_cons_succ]
  exact AW.ret ⟨.inr rfl, _, rfl, rfl, rfl⟩

set_option maxRecDepth 100000 in
theorem walk_step (k o n : Int) (s : ByteArray) (nl : Bool) (l : List E) (oy : Nat) (S : Nat → Sto) (I : Nat → Prop) (X : Sto → Prop) (hI : I 0) (hS : ∀ j, (S j).length = (S 0).length) (hsh : ∀ j, j ≤ (E.mk k o n s nl l).size → Shut (S 0).length (S j)) (hz : 1 + sizeL l < 9223372036854775808) (hY : AYields prog Γ oy S I X ((E.mk k o n s nl l).pre.map fun d => [d.enc])) (ih : ∀ i (h : i < l.length) (_ : I (1 + sizeL (l.take i))) (τ : Sto), ACalls prog Γ 59 [l[i].enc, .yl oy] (S (1 + sizeL (l.take i)) ++ τ) (fun v σ' => ∃ b, v = bool b ∧ ((b = true ∧ I (1 + sizeL (l.take (i + 1))) ∧ σ' = S (1 + sizeL (l.take (i + 1))) ++ τ) ∨ (b = false ∧ ∃ σx, X σx ∧ σ' = σx ++ τ)))) (ho : oy < (S 0).length) (τ : Sto) : ACalls prog Γ 59 [(E.mk k o n s nl l).enc, .yl oy] (S 0 ++ τ) (fun v σ' => ∃ ρ, (v = bool true ∧ I (1 + sizeL l) ∧ σ' = S (1 + sizeL l) ++ (τ ++ ρ)) ∨ (v = bool false ∧ ∃ σx, X σx ∧ σ' = σx ++ (τ ++ ρ))) := by
  refine ACalls.of func59 rfl ?_
  simp only [ntmps59, List.length_cons, List.length_nil, Nat.reduceAdd, Nat.reduceSub, List.replicate_succ, List.replicate_zero, List.cons_append, List.nil_append]
  have hll : l.length ≤ maxLen := by have := length_sizeL l; rw [maxLen_eq]; omega
  have e0 := E.enc_mk k o n s nl l
  have hy0 := fun τ => hY 0 [(E.mk k o n s nl l).enc] (by simp [E.pre]) hI τ
  rw [e0] at hy0 ⊢
  have hat : ∀ j (x : Sto), (S j ++ (τ ++ x))[(S 0).length + τ.length]? = x[0]? := fun j x => by
    rw [← hS j, app_get, app_get0]
  refine AW.regl false [2, 4] (by rfl) fun K1 hK1 => ?_ -- region 0
  simp only [go_sem, Nat.reduceAdd, Nat.reduceEqDiff, Nat.reduceLeDiff, true_and, List.length_map, len_row, one_row, enc_one, enc_len, hat, List.length_append, List.length_cons, List.length_nil, List.cons_append, List.nil_append, Nat.zero_add]
  refine hK1 _ _ ?_; try clear hK1 K1
  conv => enter [5]; simp only [setL_cons, setL_nil, List.set_cons_zero, List.set_cons_succ]
  refine AW.seq_k fun K2 hK2 => ?_
  refine AW.regl false [10] (by rfl) fun K3 hK3 => ?_ -- region 1
  simp only [go_sem, Nat.reduceAdd, Nat.reduceEqDiff, Nat.reduceLeDiff, true_and, List.length_map, len_row, one_row, enc_one, enc_len, hat, List.length_append, List.length_cons, List.length_nil, List.cons_append, List.nil_append, Nat.zero_add]
  have hy1 := hy0 (τ ++ [.cells [i64 k, i64 o, i64 n, str s, rowAV 5 nl (l.map E.enc)]])
  refine sC.yield (hy1) (fun b9 σ9 hR9 => ?_)
  simp only [go_sem, Nat.reduceAdd, Nat.reduceEqDiff, Nat.reduceLeDiff, true_and, List.length_map, len_row, one_row, enc_one, enc_len, hat, List.length_append, List.length_cons, List.length_nil, List.cons_append, List.nil_append, Nat.zero_add]
  refine hK3 _ _ ?_; try clear hK3 K3
  conv => enter [5]; simp only [setL_cons, setL_nil, List.set_cons_zero, List.set_cons_succ]
  refine AW.cond rfl (fun hc10 => ?_) (fun hc10 => ?_)
  · skip
    have hb : b9 = false := by simpa using hc10
    subst hb
    refine AW.regl false [4] (by rfl) fun K4 hK4 => ?_ -- region 2
    simp only [go_sem, Nat.reduceAdd, Nat.reduceEqDiff, Nat.reduceLeDiff, true_and, List.length_map, len_row, one_row, enc_one, enc_len, hat, List.length_append, List.length_cons, List.length_nil, List.cons_append, List.nil_append, Nat.zero_add]
    refine hK4 _ _ ?_; try clear hK4 K4
    conv => enter [5]; simp only [setL_cons, setL_nil, List.set_cons_zero, List.set_cons_succ]
    rcases hR9 with ⟨h, _⟩ | ⟨_, σx, hx, rfl⟩
    · cases h
    exact AW.ret ⟨.inr rfl, _, rfl, _, .inr ⟨rfl, σx, hx, rfl⟩⟩
  · skip
    have hb : b9 = true := by simpa using hc10
    subst hb
    rcases hR9 with ⟨_, hI1, rfl⟩ | ⟨h, _⟩
    rotate_left
    · cases h
    refine AW.skip ?_
    refine hK2 _ _ ?_; try clear hK2 K2
    refine AW.seq_k fun K5 hK5 => ?_
    refine AW.regl false [12, 13, 14] (by rfl) fun K6 hK6 => ?_ -- region 3
    simp only [go_sem, Nat.reduceAdd, Nat.reduceEqDiff, Nat.reduceLeDiff, true_and, List.length_map, len_row, one_row, enc_one, enc_len, hat, List.length_append, List.length_cons, List.length_nil, List.cons_append, List.nil_append, Nat.zero_add]
    refine hK6 _ _ ?_; try clear hK6 K6
    conv => enter [5]; simp only [setL_cons, setL_nil, List.set_cons_zero, List.set_cons_succ]
    refine AW.block ?_
    refine AW.loop_dr (α := Nat) (fun i => [.any, (.yl oy), .any, .any, .any, .any, .any, .any, .any, .any, .any, .any, (rowAV 5 nl (l.map E.enc)), (.val (.int .i64 ((l.length : Nat) : Int))), (.val (.int .i64 ((i : Nat) : Int))), .any, .any, .any, .any, .any, .any, .any, .any]) (fun i => S (1 + sizeL (l.take i)) ++ (τ ++ [.cells [i64 k, i64 o, i64 n, str s, rowAV 5 nl (l.map E.enc)]])) (fun i => l.length - i) (fun i => i ≤ l.length ∧ I (1 + sizeL (l.take i))) 0 ?_ ?_ ?_
    · exact ⟨⟨Nat.zero_le _, by simpa [sizeL] using hI1⟩, by simp [Wk], by simp [sizeL]⟩
    · refine fun y hy => ⟨?_, ?_⟩
      · have hS1 := hS 1
        simp [belL, AV.bel, row_b, hS (0 + 1)]
        omega
      · exact shut_app (hsh _ (by simp only [E.size]; have := sizeL_le (l := l) y; omega)) hS
    · rintro i ⟨hi, hit⟩
      refine AW.regl false [15] (by rfl) fun K7 hK7 => ?_ -- region 4
      simp only [go_sem, Nat.reduceAdd, Nat.reduceEqDiff, Nat.reduceLeDiff, true_and, List.length_map, len_row, one_row, enc_one, enc_len, hat, List.length_append, List.length_cons, List.length_nil, List.cons_append, List.nil_append, Nat.zero_add]
      refine hK7 _ _ ?_; try clear hK7 K7
      conv => enter [5]; simp only [setL_cons, setL_nil, List.set_cons_zero, List.set_cons_succ]
      refine AW.seq_k fun K8 hK8 => ?_
      refine AW.cond rfl (fun hc15 => ?_) (fun hc15 => ?_)
      · skip
        have hi1 : i < l.length := by simpa using hc15
        have hx : (l.map E.enc)[i]? = some (E.enc (l[i])) := by rw [List.getElem?_map, List.getElem?_eq_getElem hi1]; rfl
        refine AW.skip ?_
        refine hK8 _ _ ?_; try clear hK8 K8
        refine AW.seq_k fun K9 hK9 => ?_
        refine AW.block ?_
        refine AW.regl false [6] (by rfl) fun K10 hK10 => ?_ -- region 5
        simp only [go_sem, Nat.reduceAdd, Nat.reduceEqDiff, Nat.reduceLeDiff, true_and, List.length_map, len_row, one_row, enc_one, enc_len, hat, List.length_append, List.length_cons, List.length_nil, List.cons_append, List.nil_append, Nat.zero_add, at_row hx, enc_get47]
        refine hK10 _ _ ?_; try clear hK10 K10
        conv => enter [5]; simp only [setL_cons, setL_nil, List.set_cons_zero, List.set_cons_succ, upd_none, upd_at]
        refine AW.regl false [21] (by rfl) fun K11 hK11 => ?_ -- region 6
        simp only [go_sem, Nat.reduceAdd, Nat.reduceEqDiff, Nat.reduceLeDiff, true_and, List.length_map, len_row, one_row, enc_one, enc_len, hat, List.length_append, List.length_cons, List.length_nil, List.cons_append, List.nil_append, Nat.zero_add, enc_get47]
        have hq := ih i hi1 hit (τ ++ [.cells [i64 k, i64 o, i64 n, str s, rowAV 5 nl (l.map E.enc)], .cells l[i].enc.cells])
        refine sC.ofR en59 (hq) (fun v' σ20 hR20 => ?_)
        obtain ⟨b20, rfl, hR20⟩ := hR20
        simp only [go_sem, Nat.reduceAdd, Nat.reduceEqDiff, Nat.reduceLeDiff, true_and, List.length_map, len_row, one_row, enc_one, enc_len, hat, List.length_append, List.length_cons, List.length_nil, List.cons_append, List.nil_append, Nat.zero_add, enc_get47]
        refine hK11 _ _ ?_; try clear hK11 K11
        conv => enter [5]; simp only [setL_cons, setL_nil, List.set_cons_zero, List.set_cons_succ]
        refine AW.cond rfl (fun hc21 => ?_) (fun hc21 => ?_)
        · skip
          have hb : b20 = false := by simpa using hc21
          subst hb
          refine AW.regl false [4] (by rfl) fun K12 hK12 => ?_ -- region 7
          simp only [go_sem, Nat.reduceAdd, Nat.reduceEqDiff, Nat.reduceLeDiff, true_and, List.length_map, len_row, one_row, enc_one, enc_len, hat, List.length_append, List.length_cons, List.length_nil, List.cons_append, List.nil_append, Nat.zero_add]
          refine hK12 _ _ ?_; try clear hK12 K12
          conv => enter [5]; simp only [setL_cons, setL_nil, List.set_cons_zero, List.set_cons_succ]
          rcases hR20 with ⟨h, _⟩ | ⟨_, σx, hx, rfl⟩
          · cases h
          exact AW.ret ⟨.inr rfl, _, rfl, [.cells [i64 k, i64 o, i64 n, str s, rowAV 5 nl (l.map E.enc)], .cells l[i].enc.cells], .inr ⟨rfl, σx, hx, rfl⟩⟩
        · skip
          have hb : b20 = true := by simpa using hc21
          subst hb
          rcases hR20 with ⟨_, hI2, rfl⟩ | ⟨h, _⟩
          rotate_left
          · cases h
          refine AW.skip ?_
          refine hK9 _ _ ?_; try clear hK9 K9
          refine AW.lastl false [14] (by rfl) fun K hK => ?_ -- region 8
          simp only [go_sem, Nat.reduceAdd, Nat.reduceEqDiff, Nat.reduceLeDiff, true_and, List.length_map, len_row, one_row, enc_one, enc_len, hat, List.length_append, List.length_cons, List.length_nil, List.cons_append, List.nil_append, Nat.zero_add]
          refine hK _ _ fun env' hw => ?_
          simp only [setL_cons, setL_nil, List.set_cons_zero, List.set_cons_succ] at hw
          refine ⟨i + 1, by omega, ⟨by omega, hI2⟩, ?_, ?_⟩
          · refine hw.trans ?_
            simp [Wk, wrap_succ hi1 hll]
          · simp [List.take_append, List.take_of_length_le, hS]
      · skip
        have hi1 : i = l.length := by
          have : ¬ i < l.length := by simpa using hc15
          omega
        refine AW.exit ?_
        refine hK5 _ _ ?_; try clear hK5 K5
        refine AW.regl false [4] (by rfl) fun K13 hK13 => ?_ -- region 9
        simp only [go_sem, Nat.reduceAdd, Nat.reduceEqDiff, Nat.reduceLeDiff, true_and, List.length_map, len_row, one_row, enc_one, enc_len, hat, List.length_append, List.length_cons, List.length_nil, List.cons_append, List.nil_append, Nat.zero_add]
        refine hK13 _ _ ?_; try clear hK13 K13
        conv => enter [5]; simp only [setL_cons, setL_nil, List.set_cons_zero, List.set_cons_succ]
        rw [hi1, List.take_length]
        rw [hi1, List.take_length] at hit
        exact AW.ret ⟨.inr rfl, _, rfl, _, .inl ⟨rfl, hit, rfl⟩⟩

theorem preL_split {l : List E} {i : Nat} (h : i < l.length) : preL l = preL (l.take i) ++ (l[i].pre ++ preL (l.drop (i + 1))) := by
  have := congrArg preL (List.take_append_drop (i + 1) l)
  rw [preL_append, preL_take h, List.append_assoc] at this
  exact this.symm
theorem walk_calls : ∀ e : E, ∀ (oy : Nat) (S : Nat → Sto) (I : Nat → Prop) (X : Sto → Prop), I 0 → (∀ j, (S j).length = (S 0).length) → (∀ j, j ≤ e.size → Shut (S 0).length (S j)) → (∀ σx, X σx → σx.length = (S 0).length ∧ Shut (S 0).length σx) → e.size < 9223372036854775808 →
    AYields prog Γ oy S I X (e.pre.map fun d => [d.enc]) → oy < (S 0).length → ∀ τ, ACalls prog Γ 59 [e.enc, .yl oy] (S 0 ++ τ) (fun v σ' => ∃ b, v = bool b ∧ ((b = true ∧ I e.size ∧ σ' = S e.size ++ τ) ∨ (b = false ∧ ∃ σx, X σx ∧ σ' = σx ++ τ))) := E.ind fun k o n s nl l ih oy S I X hI hS hsh hX hz hY ho τ => by
  simp only [E.size] at hz
  refine ACalls.trunc (walk_step k o n s nl l oy S I X hI hS hsh hz hY ?_ ho τ) ?_
  · intro i hi hIi τ
    have hle := sizeL_le (l := l) (i + 1)
    have htk := sizeL_take hi
    have h0 : 1 + sizeL (l.take i) + 0 = 1 + sizeL (l.take i) := rfl
    have hp : ((E.mk k o n s nl l :: preL (l.take i)).map fun d => [d.enc]).length = 1 + sizeL (l.take i) := by simp [preL_length]; omega
    have hY' : AYields prog Γ oy (fun j => S (1 + sizeL (l.take i) + j)) (fun j => I (1 + sizeL (l.take i) + j)) X (l[i].pre.map fun d => [d.enc]) := by
      rw [E.pre, preL_split hi, ← List.cons_append, List.map_append, List.map_append] at hY
      have := hY.part
      rwa [hp] at this
    have := ih _ (mem_at hi) oy (fun j => S (1 + sizeL (l.take i) + j)) (fun j => I (1 + sizeL (l.take i) + j)) X hIi (fun j => (hS _).trans (hS _).symm) (fun j hj => by
      rw [hS (_ + 0)]
      exact hsh _ (by simp only [E.size]; omega)) (fun σx hx => by rw [hS (_ + 0)]; exact hX σx hx) (by omega) hY' (by rw [hS]; exact ho) τ
    rw [show 1 + sizeL (l.take (i + 1)) = 1 + sizeL (l.take i) + l[i].size by omega]
    exact this
  · rintro v σ' ⟨ρ, ⟨rfl, hIe, rfl⟩ | ⟨rfl, σx, hx, rfl⟩⟩
    · refine ⟨S (1 + sizeL l) ++ τ, ρ, by rw [List.append_assoc], by simp [hS], shut_app (hsh _ (by simp [E.size])) hS, rfl, true, rfl, .inl ⟨rfl, by rw [E.size]; exact hIe, by rw [E.size]⟩⟩
    · obtain ⟨h1, h2⟩ := hX σx hx
      refine ⟨σx ++ τ, ρ, by rw [List.append_assoc], by simp [h1], fun i a hi => ?_, rfl, false, rfl, .inr ⟨rfl, σx, hx, rfl⟩⟩
      rcases Nat.lt_or_ge i σx.length with h | h
      · rw [List.getElem?_append_left h] at hi
        exact .inr (bel_le (by simp) (h2 i a hi))
      · rw [List.getElem?_append_right h, h1] at hi
        rw [List.getElem?_append_right (by rw [← h1]; exact h)]
        exact .inl hi

theorem walk_iter (e : E) (hz : e.size < 9223372036854775808) (oc : Nat) (σ : Sto) (h1 : σ[oc]? = some (.cells e.enc.cells)) : AIter prog Γ 58 [.ref oc 0] σ (e.pre.map fun d => [d.enc]) := by
  intro o S I X hI hpre ho hl hsh hX hY
  obtain ⟨τ0, hτ0⟩ := hpre
  have hlen : (e.pre.map fun d => [d.enc]).length = e.size := by simp [pre_length]
  rw [hlen] at hsh ⊢
  have hc := walk_calls (Γ := Γ) e o S I X hI hl hsh hX hz hY ho []
  rw [List.append_nil] at hc
  have h1' : (S 0)[oc]? = some (.cells e.enc.cells) := by rw [hτ0]; exact getL h1 _
  refine ACalls.of func58 rfl ?_
  simp only [ntmps58, List.length_cons, List.length_nil, Nat.reduceAdd, Nat.reduceSub, List.replicate_succ, List.replicate_zero, List.cons_append, List.nil_append]
  refine AW.lastl false [] (by rfl) fun K hK => ?_
  simp only [go_sem, h1', List.drop_zero, enc_get47]
  refine sC.ofR en59 hc (fun v' σ' hR => ?_)
  simp only [go_sem]
  refine hK _ _ fun env' hw => ⟨.inl rfl, _, rfl, ?_⟩
  obtain ⟨b, _, ⟨_, hIe, h⟩ | ⟨_, σx, hx, h⟩⟩ := hR
  · left
    rw [h, List.append_nil]
    exact ⟨hIe, rfl⟩
  · right
    rw [h, List.append_nil]
    exact hx

theorem single_calls' (hΓ : Words Γ) : ∀ e : E, e.fit → APure prog Γ 41 [e.enc] (bool e.single)
  | .mk k o n s nl l, h => single_calls hΓ k o n s nl l h
theorem all_take {α : Type} {p : α → Bool} {l : List α} {k : Nat} {d : α} (hd : l[k]? = some d) (h : (l.take k).all p = true) (hp : p d = true) : (l.take (k + 1)).all p = true := by
  obtain ⟨hk, rfl⟩ := List.getElem?_eq_some_iff.1 hd
  exact all_step hk h hp
theorem all_bad {α : Type} {p : α → Bool} {l : List α} {k : Nat} {d : α} (hd : l[k]? = some d) (hp : p d = false) : l.all p = false := by
  obtain ⟨hk, rfl⟩ := List.getElem?_eq_some_iff.1 hd
  exact all_at hk hp

set_option maxRecDepth 100000 in
theorem right_calls (hΓ : Words Γ) (e : E) (hsz : e.size < 9223372036854775808) (hft : e.fits) : APure prog Γ 28 [e.enc] (bool (e.pre.all E.single && decide ((e.depth : Int) ≤ 200))) := by
  refine APure.ofM func28 rfl fun σ => ?_
  simp only [ntmps28, List.length_cons, List.length_nil, Nat.reduceAdd, Nat.reduceSub, List.replicate_succ, List.replicate_zero, List.cons_append, List.nil_append]
  refine AW.regl false [1, 2] (by rfl) fun K1 hK1 => ?_ -- region 0
  simp only [go_sem, Nat.reduceAdd, Nat.reduceEqDiff, Nat.reduceLeDiff, true_and, enc_one, enc_len, enc_get43, enc_get47, List.drop_zero]
  refine hK1 _ _ ?_; try clear hK1 K1
  conv => enter [5]; simp only [setL_cons, setL_nil, List.set_cons_zero, List.set_cons_succ]
  refine AW.seq_k fun K2 hK2 => ?_
  refine AW.regl false [5] (by rfl) fun K3 hK3 => ?_ -- region 1
  simp only [go_sem, Nat.reduceAdd, Nat.reduceEqDiff, Nat.reduceLeDiff, true_and, enc_one, enc_len, enc_get43, enc_get47, List.drop_zero]
  refine sC.ofR en40 (walk_fn _ e) (fun v' σ' hR => ?_)
  obtain ⟨rfl, rfl⟩ := hR
  simp only [go_sem, Nat.reduceAdd, Nat.reduceEqDiff, Nat.reduceLeDiff, true_and, enc_one, enc_len, enc_get43, enc_get47, List.drop_zero]
  refine hK3 _ _ ?_; try clear hK3 K3
  conv => enter [5]; simp only [setL_cons, setL_nil, List.set_cons_zero, List.set_cons_succ]
  refine AW.block ?_
  refine AW.range (f := 58) (caps := [.ref (σ.length + 2) 0]) (σ0 := σ ++ [.cells e.enc.cells, .cells [bool false], .cells e.enc.cells]) (xs := e.pre.map fun d => [d.enc]) (fun _ => σ ++ [.cells e.enc.cells, .cells [bool false], .cells e.enc.cells]) (fun j => (e.pre.take j).all E.single = true) (fun ex σx => ex = .ret ∧ e.pre.all E.single = false ∧ σx = σ ++ [.cells e.enc.cells, .cells [bool false], .cells e.enc.cells]) ?_ en58 ?_ ?_ ?_ ?_ ?_ ?_ ?_ ?_ ?_ ?_ ?_
  · rfl
  · exact walk_iter e hsz (σ.length + 2) _ ((app_get σ _ 2).trans rfl)
  · exact rfl
  · exact ⟨[], by simp⟩
  · exact by simp
  · exact fun _ => by simp
  · exact fun _ _ => bel_one
  · exact fun ex σx h => ⟨.inl h.1, by rw [h.2.2], by rw [h.2.2]; exact bel_one⟩
  · exact fun x hx => by obtain ⟨d, _, rfl⟩ := List.mem_map.1 hx; rfl
  · intro lp k x hx hI τ
    obtain ⟨d, hd, rfl⟩ := map_at hx
    simp only [envp, List.set_cons_zero, List.set_cons_succ]
    conv => enter [6]; simp only [List.append_assoc, List.cons_append, List.nil_append, List.append_nil]
    refine AW.lastl false [3] (by rfl) fun K hK => ?_ -- region 2
    simp only [go_sem, Nat.reduceAdd, Nat.reduceEqDiff, Nat.reduceLeDiff, true_and, enc_one, enc_len, enc_get43, enc_get47, List.drop_zero]
    refine hK _ _ fun env' hw => ?_
    simp only [setL_cons, setL_nil, List.set_cons_zero, List.set_cons_succ] at hw
    refine ⟨rfl, [.cells d.enc.cells], by simp, fun τ' hτ => ?_⟩
    refine AW.weaken hw ?_
    have hat := at_len hτ
    conv => enter [6]; simp only [List.append_assoc, List.cons_append, List.nil_append, List.append_nil]
    refine AW.block ?_
    refine AW.regl false [9] (by rfl) fun K4 hK4 => ?_ -- region 3
    simp only [go_sem, Nat.reduceAdd, Nat.reduceEqDiff, Nat.reduceLeDiff, true_and, enc_one, enc_len, enc_get43, enc_get47, List.drop_zero, hat]
    refine sC.of en41 ((single_calls' hΓ d (hft d (List.mem_of_getElem? hd))).on _).here (by rfl) ?_
    simp only [go_sem, Nat.reduceAdd, Nat.reduceEqDiff, Nat.reduceLeDiff, true_and, enc_one, enc_len, enc_get43, enc_get47, List.drop_zero, hat]
    refine hK4 _ _ ?_; try clear hK4 K4
    conv => enter [5]; simp only [setL_cons, setL_nil, List.set_cons_zero, List.set_cons_succ]
    refine AW.cond rfl (fun hc9 => ?_) (fun hc9 => ?_)
    · skip
      refine AW.regl false [] (by rfl) fun K5 hK5 => ?_ -- region 4
      simp only [go_sem, Nat.reduceAdd, Nat.reduceEqDiff, Nat.reduceLeDiff, true_and, enc_one, enc_len, enc_get43, enc_get47, List.drop_zero]
      refine hK5 _ _ ?_; try clear hK5 K5
      conv => enter [5]; simp only [setL_cons, setL_nil, List.set_cons_zero, List.set_cons_succ, upd_none, upd_at]
      exact AW.ret ⟨_, [.cells d.enc.cells], ⟨rfl, all_bad hd (by simpa using hc9), rfl⟩, by simp⟩
    · skip
      refine AW.skip ?_
      exact ⟨all_take hd hI (by simpa using hc9), [.cells d.enc.cells], by simp⟩
  · intro hI r env0
    conv => enter [3]; simp only [List.append_assoc, List.cons_append, List.nil_append]
    rw [List.length_map, List.take_length] at hI
    refine hK2 _ _ ?_; try clear hK2 K2
    refine AW.regl false [] (by rfl) fun K6 hK6 => ?_ -- region 5
    simp only [go_sem, Nat.reduceAdd, Nat.reduceEqDiff, Nat.reduceLeDiff, true_and, enc_one, enc_len, enc_get43, enc_get47, List.drop_zero]
    refine sC.of en42 ((depth_calls e hsz).on _).here (by rfl) ?_
    simp only [go_sem, Nat.reduceAdd, Nat.reduceEqDiff, Nat.reduceLeDiff, true_and, enc_one, enc_len, enc_get43, enc_get47, List.drop_zero]
    refine hK6 _ _ ?_; try clear hK6 K6
    conv => enter [5]; simp only [setL_cons, setL_nil, List.set_cons_zero, List.set_cons_succ, upd_none, upd_at]
    exact AW.ret ⟨.inr rfl, _, ret_cell (v := bool (decide ((e.depth : Int) ≤ 200))) rfl (by simp only [go_sem, List.append_assoc, List.cons_append, List.nil_append]), by simp, by rw [hI]; exact .keep rfl⟩
  · rintro ex σx ⟨rfl, hf, rfl⟩ r env0
    exact ⟨.inr rfl, _, ret_cell (v := bool false) rfl (by simp only [go_sem, List.append_assoc, List.cons_append, List.nil_append]), by simp, by rw [hf]; exact .keep rfl⟩
end A
end Go.Proofs.Tryd
