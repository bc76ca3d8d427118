import Derived.Test.YtnfimclkiccdhaaDoorPkPtB
import Derived.Test.YtnfimclkiccdhaaDoorPkPtA
import Derived.Lib.ItoaLen
import Derived.Test.YtnfimclkiccdhaaDoorTie
import Derived.Test.YtnfimclkiccdhaaDoorCards
import Derived.Test.YtnfimclkiccdhaaDoorPtEvRow
import Derived.Test.YtnfimclkiccdhaaDoorPtEvBulk
import Derived.Lib.SmallJoins
import Derived.Deep.DeepWitnessRowRef
import Derived.Maps.Range
/-! The texts of expressions, of programs: what both printers compute. -/
namespace Go.Proofs.Tryd
set_option linter.unusedSimpArgs false
set_option linter.unusedVariables false
open Go Go.Proofs.Ev
namespace Pr
abbrev LIM : Nat := 140737488355328
open A (E VarM EqM NodeM ProgM)
def opsT : List (List UInt8 × Int) := [([45, 62], 0), ([61, 62], 1), ([111, 114], 2), ([120, 111, 114], 2), ([97, 110, 100], 3), ([61], 4), ([60, 62], 4), ([60], 4), ([60, 61], 4), ([62], 4), ([62, 61], 4), ([43], 5), ([45], 5), ([42], 6), ([100, 105, 118], 6), ([109, 111, 100], 6)]
def opT (o : Int) : List UInt8 := (opsT.getD o.toNat ([], 0)).1
def opL (o : Int) : Int := (opsT.getD o.toNat ([], 0)).2
def e0 : E := .mk 0 0 0 ⟨#[]⟩ true []
/-- How tight an expression is. -/
def lev : E → Int
  | .mk k o _ _ _ _ => if k == 5 then -1 else if k == 4 then opL o else if k == 3 then 7 else 8
theorem lev_mk (k p n : Int) (s : ByteArray) (nl : Bool) (l : List E) : lev (.mk k p n s nl l) = if k == 5 then -1 else if k == 4 then opL p else if k == 3 then 7 else 8 := rfl
def brk (t : List UInt8) : List UInt8 := [40] ++ (t ++ [41])
/-- An operand in a place. -/
def oper (e : E) (asks : Int) (t : List UInt8) : List UInt8 := if lev e ≥ asks then t else brk t
def unPre (o : Int) : E → List UInt8
  | .mk k o' _ _ _ _ => if o == 1 then [110, 111, 116, 32] else if o == 2 then [112, 114, 101, 32] else if k == 3 && o' == 0 then [45, 32] else [45]
theorem unPre_mk (p k o' n : Int) (s : ByteArray) (nl : Bool) (l : List E) : unPre p (.mk k o' n s nl l) = if p == 1 then [110, 111, 116, 32] else if p == 2 then [112, 114, 101, 32] else if k == 3 && o' == 0 then [45, 32] else [45] := rfl
def leftA (o : Int) : Int := if (opL o == 0 || opL o == 1) || opL o == 4 then opL o + 1 else opL o
def rightA (o : Int) : Int := if opL o == 0 || opL o == 1 then opL o else opL o + 1
def sepC : List UInt8 := [44, 32]
/-- An expression's text; ts: those of its operands. -/
def txt (k o n : Int) (s : ByteArray) (l : List E) (ts : List (List UInt8)) : List UInt8 :=
  if k == 0 then Lib.itoa n
  else if k == 1 then truthT (n == 1)
  else if k == 2 then s.data.toList
  else if k == 3 then unPre o (l.getD 0 e0) ++ oper (l.getD 0 e0) 7 (ts.getD 0 [])
  else if k == 4 then oper (l.getD 0 e0) (leftA o) (ts.getD 0 []) ++ ([32] ++ (opT o ++ [32]) ++ oper (l.getD 1 e0) (rightA o) (ts.getD 1 []))
  else if k == 5 then [105, 102, 32] ++ (ts.getD 0 [] ++ ([32, 116, 104, 101, 110, 32] ++ (ts.getD 1 [] ++ ([32, 101, 108, 115, 101, 32] ++ ts.getD 2 []))))
  else if k == 6 then s.data.toList ++ ([40] ++ (sepC.intercalate ts ++ [41]))
  else []
mutual
def tx : E → List UInt8
  | .mk k o n s _ l => txt k o n s l (txL l)
def txL : List E → List (List UInt8)
  | [] => []
  | e :: l => tx e :: txL l
end
theorem txL_map : ∀ l : List E, txL l = l.map tx
  | [] => rfl
  | e :: l => by rw [txL, txL_map l]; rfl
theorem tx_mk (k o n : Int) (s : ByteArray) (nl : Bool) (l : List E) : tx (.mk k o n s nl l) = txt k o n s l (l.map tx) := by rw [tx, txL_map]
/-! How long texts are. -/
theorem len2 {α : Type} {l : List α} (h : l.length = 2) : ∃ a b, l = [a, b] := by
  match l, h with
  | [a, b], _ => exact ⟨a, b, rfl⟩
theorem len3 {α : Type} {l : List α} (h : l.length = 3) : ∃ a b c, l = [a, b, c] := by
  match l, h with
  | [a, b, c], _ => exact ⟨a, b, c, rfl⟩
theorem opT_le (o : Int) : (opT o).length ≤ 3 := by
  unfold opT
  generalize o.toNat = n
  have h : ∀ x ∈ opsT, x.1.length ≤ 3 := by decide
  rw [List.getD_eq_getElem?_getD]
  cases hx : opsT[n]? with
  | none => simp
  | some x => exact h x (List.mem_of_getElem? hx)
theorem oper_ge (e : E) (a : Int) (t : List UInt8) : t.length ≤ (oper e a t).length := by
  unfold oper
  split
  · omega
  · simp [brk]
    omega
theorem oper_le (e : E) (a : Int) (t : List UInt8) : (oper e a t).length ≤ t.length + 2 := by
  unfold oper
  split
  · omega
  · simp [brk]
theorem opL_in (p : Int) : 0 ≤ opL p ∧ opL p ≤ 6 := by
  unfold opL
  generalize p.toNat = n
  have h : ∀ x ∈ opsT, 0 ≤ x.2 ∧ x.2 ≤ 6 := by decide
  rw [List.getD_eq_getElem?_getD]
  cases hx : opsT[n]? with
  | none => simp
  | some x => exact h x (List.mem_of_getElem? hx)
theorem opL_wrap (p : Int) : IntKind.i64.wrap (opL p + 1) = opL p + 1 := by
  obtain ⟨h0, h1⟩ := opL_in p
  exact wrap_i64 (by omega) (by omega)
theorem unPre_le (o : Int) (e : E) : (unPre o e).length ≤ 4 := by
  cases e
  unfold unPre
  repeat' split
  all_goals decide
theorem truthT_le (b : Bool) : (truthT b).length ≤ 5 := by cases b <;> decide
theorem inter_nil (sep : List UInt8) : sep.intercalate [] = [] := rfl
theorem inter_one (sep a : List UInt8) : sep.intercalate [a] = a := by simp [List.intercalate]
theorem inter_cons2 (sep a b : List UInt8) (l : List (List UInt8)) : sep.intercalate (a :: b :: l) = a ++ (sep ++ sep.intercalate (b :: l)) := by simp [List.intercalate, List.intersperse]
theorem inter_snoc (sep x : List UInt8) : ∀ l : List (List UInt8), l ≠ [] → sep.intercalate (l ++ [x]) = sep.intercalate l ++ (sep ++ x)
  | [], h => absurd rfl h
  | [a], _ => by rw [List.singleton_append, inter_cons2, inter_one, inter_one]
  | a :: b :: l, _ => by
    have := inter_snoc sep x (b :: l) (by simp)
    rw [List.cons_append, List.cons_append, inter_cons2, inter_cons2, ← List.cons_append, this]
    simp only [List.append_assoc]
theorem inter_le (sep : List UInt8) : ∀ l : List (List UInt8), (sep.intercalate l).length ≤ (l.map (·.length + sep.length)).sum
  | [] => by simp [List.intercalate]
  | [a] => by rw [inter_one]; simp
  | a :: b :: l => by
    have := inter_le sep (b :: l)
    rw [inter_cons2]
    simp only [List.length_append, List.map_cons, List.sum_cons] at this ⊢
    omega
/-- Its number is one of 64 bits. -/
def rng : E → Prop
  | .mk _ _ n _ _ _ => -9223372036854775808 ≤ n ∧ n ≤ 9223372036854775807
theorem sum_le {l : List E} (h : ∀ e ∈ l, (tx e).length + 4 ≤ 100 * e.size) : (l.map fun e => (tx e).length + 4).sum ≤ 100 * A.sizeL l := by
  induction l with
  | nil => simp [A.sizeL]
  | cons e l ih =>
    have := h e (by simp)
    have := ih fun d hd => h d (by simp [hd])
    simp only [List.map_cons, List.sum_cons, A.sizeL]
    omega
theorem getD_tx2 (l : List E) : ((l.map tx).getD 0 []).length + ((l.map tx).getD 1 []).length + ((l.map tx).getD 2 []).length ≤ (l.map fun e => (tx e).length + 4).sum := by
  match l with
  | [] => simp
  | [a] => simp
  | [a, b] => simp; omega
  | a :: b :: c :: l => simp; omega
theorem name_le {s : ByteArray} (h : A.nameM s = true) : s.size ≤ 60 := by
  unfold A.nameM at h
  simp at h
  have := h.1.1.2
  omega
/-- A right expression's text is short. -/
theorem tx_le : ∀ e : E, e.shape = true → (∀ d ∈ e.pre, rng d) → (tx e).length + 4 ≤ 100 * e.size := by
  refine E.ind fun k o n s nl l ih hs hr => ?_
  have hs' := hs
  simp only [E.shape, Bool.and_eq_true] at hs'
  obtain ⟨hsl, h1⟩ := hs'
  rw [A.shapeL_all, List.all_eq_true] at hsl
  have hsum := sum_le (l := l) fun e he => ih e he (hsl e he) fun d hd => hr d (by rw [E.pre]; exact List.mem_cons_of_mem _ (A.preL_mem he hd))
  rw [tx_mk, E.size]
  have h2 := getD_tx2 l
  have hin := inter_le sepC (l.map tx)
  rw [List.map_map] at hin
  have hin2 : (l.map ((fun t : List UInt8 => t.length + sepC.length) ∘ tx)).sum ≤ (l.map fun e => (tx e).length + 4).sum := by
    generalize l = l0
    induction l0 with
    | nil => simp
    | cons a l0 ih0 => simp [sepC] at ih0 ⊢; omega
  have hr0 : rng (.mk k o n s nl l) := hr _ (by rw [E.pre]; exact List.mem_cons_self)
  have hn := Lib.itoa_length_le n hr0.1 hr0.2
  unfold txt
  unfold A.single at h1
  split
  · omega
  split
  · have := truthT_le (n == 1); omega
  split
  · rename_i g0 g1 g2
    rw [if_neg g0, if_neg g1, if_pos g2] at h1
    simp only [Bool.and_eq_true] at h1
    have := name_le h1.1.1.1
    have e : s.data.toList.length = s.size := rfl
    omega
  split
  · have := unPre_le o (l.getD 0 e0)
    have := oper_le (l.getD 0 e0) 7 ((l.map tx).getD 0 [])
    rw [List.length_append]
    omega
  split
  · have := opT_le o
    have := oper_le (l.getD 0 e0) (leftA o) ((l.map tx).getD 0 [])
    have := oper_le (l.getD 1 e0) (rightA o) ((l.map tx).getD 1 [])
    simp only [List.length_append, List.length_cons, List.length_nil]
    omega
  split
  · simp only [List.length_append, List.length_cons, List.length_nil]
    omega
  split
  · rename_i g0 g1 g2 g3 g4 g5 g6
    rw [if_neg g0, if_neg g1, if_neg g2, if_neg g3, if_neg g4, if_neg g5, if_pos g6] at h1
    simp only [Bool.and_eq_true] at h1
    have := name_le h1.1.1.1
    have e : s.data.toList.length = s.size := rfl
    simp only [List.length_append, List.length_cons, List.length_nil]
    omega
  · simp
    omega
theorem inter_take_le (sep : List UInt8) : ∀ (l : List (List UInt8)) (i : Nat), (sep.intercalate (l.take i)).length ≤ (sep.intercalate l).length
  | [], i => by simp [inter_nil]
  | a :: l, 0 => by simp [inter_nil]
  | [a], i + 1 => by simp
  | a :: b :: l, 1 => by
    simp only [List.take_succ_cons, List.take_zero]
    rw [inter_one, inter_cons2]
    simp
  | a :: b :: l, i + 2 => by
    have := inter_take_le sep (b :: l) (i + 1)
    rw [List.take_succ_cons] at this ⊢
    rw [List.take_succ_cons, inter_cons2, inter_cons2]
    simp only [List.length_append]
    omega
theorem inter_step (sep : List UInt8) {l : List (List UInt8)} {i : Nat} (h : i < l.length) (hi : 0 < i) : sep.intercalate (l.take (i + 1)) = sep.intercalate (l.take i) ++ (sep ++ l[i]) := by
  rw [List.take_add_one, List.getElem?_eq_getElem h]
  refine inter_snoc sep l[i] (l.take i) (fun e => ?_)
  have := congrArg List.length e
  rw [List.length_take, List.length_nil] at this
  omega
theorem inter_first (sep : List UInt8) {l : List (List UInt8)} (h : 0 < l.length) : sep.intercalate (l.take 1) = l[0] := by
  match l, h with
  | a :: l, _ => simp [inter_one]
/-- The words of an if. -/
def kwL : List (List UInt8) := [[105, 102, 32], [32, 116, 104, 101, 110, 32], [32, 101, 108, 115, 101, 32]]
def ifP (l : List E) : List (List UInt8) := (kwL.zip l).map fun x => x.1 ++ tx x.2
theorem ifP_flat {a b c : E} : (ifP [a, b, c]).flatten = [105, 102, 32] ++ (tx a ++ ([32, 116, 104, 101, 110, 32] ++ (tx b ++ ([32, 101, 108, 115, 101, 32] ++ tx c)))) := by simp [ifP, kwL]
theorem kw_eq : AV.sl 1 [.val (.string ⟨#[105, 102, 32]⟩), .val (.string ⟨#[32, 116, 104, 101, 110, 32]⟩), .val (.string ⟨#[32, 101, 108, 115, 101, 32]⟩)] = rowAV 1 false (kwL.map fun x => str (bs x)) := rfl
theorem row3_51 (σ : Sto) (a b c : ByteArray) : aRow prog false σ 51 3 [(0, .val (.string a)), (1, .val (.string b)), (2, .val (.string c))] = some (.sl 1 [.val (.string a), .val (.string b), .val (.string c)], σ) :=
  aRow_sl (by kernel_rfl) (by decide) (row51 (by decide) (by decide) rfl (by intro p hp; simp only [List.mem_cons, List.not_mem_nil, or_false] at hp; rcases hp with rfl | rfl | rfl <;> exact ⟨rfl, rfl⟩)) σ
theorem row2_51 (σ : Sto) (a b : ByteArray) : aRow prog false σ 51 2 [(0, .val (.string a)), (1, .val (.string b))] = some (.sl 1 [.val (.string a), .val (.string b)], σ) :=
  aRow_sl (by kernel_rfl) (by decide) (row51 (by decide) (by decide) rfl (by intro p hp; simp only [List.mem_cons, List.not_mem_nil, or_false] at hp; rcases hp with rfl | rfl <;> exact ⟨rfl, rfl⟩)) σ
theorem row1_51 (σ : Sto) (a : ByteArray) : aRow prog false σ 51 1 [(0, .val (.string a))] = some (.sl 1 [.val (.string a)], σ) :=
  aRow_sl (by kernel_rfl) (by decide) (row51 (by decide) (by decide) rfl (by intro p hp; simp only [List.mem_cons, List.not_mem_nil, or_false] at hp; subst hp; exact ⟨rfl, rfl⟩)) σ
theorem addS (T : TypeId) {a b : List UInt8} (h : a.length + b.length ≤ LIM) : aBin prog .add T (str (bs a)) (str (bs b)) = some (str (bs (a ++ b))) := by
  have h1 : ¬ (((bs a).size + (bs b).size : Nat) : Int) > IntKind.i64.max := by
    rw [bs_size, bs_size]
    show ¬ ((a.length + b.length : Nat) : Int) > 9223372036854775807
    have h : a.length + b.length ≤ 140737488355328 := h
    omega
  simp only [str, aBin, aStr, if_neg h1, Option.map_some, bs_app]
theorem at_sl0 {sz : Nat} {a : AV} {l : List AV} {k : IntKind} : aAt sz (.sl sz (a :: l)) (.val (.int k 0)) = some (.er a.cells) := at_sl (i := 0) rfl
theorem at_sl1 {sz : Nat} {a b : AV} {l : List AV} {k : IntKind} : aAt sz (.sl sz (a :: b :: l)) (.val (.int k 1)) = some (.er b.cells) := at_sl (i := 1) rfl
theorem at_sl2 {sz : Nat} {a b c : AV} {l : List AV} {k : IntKind} : aAt sz (.sl sz (a :: b :: c :: l)) (.val (.int k 2)) = some (.er c.cells) := at_sl (i := 2) rfl
theorem belL_of {n : Nat} : ∀ {l : List AV}, (∀ x ∈ l, x.bel n = true) → belL n l = true
  | [], _ => rfl
  | a :: l, h => by simp only [belL, Bool.and_eq_true]; exact ⟨h a (by simp), belL_of fun x hx => h x (by simp [hx])⟩
theorem row_belA {n sz : Nat} {nl : Bool} {l : List AV} (h : ∀ x ∈ l, x.bel n = true) : (rowAV sz nl l).bel n = true := by
  cases l with
  | nil => cases nl <;> rfl
  | cons a l => exact belL_of h
theorem strs_bel (n : Nat) (l : List (List UInt8)) : ∀ x ∈ l.map (fun x => str (bs x)), x.bel n = true := by
  intro x hx
  obtain ⟨y, _, rfl⟩ := List.mem_map.1 hx
  rfl
theorem vars_bel (n : Nat) (l : List VarM) : ∀ x ∈ l.map VarM.enc, x.bel n = true := by
  intro x hx
  obtain ⟨y, _, rfl⟩ := List.mem_map.1 hx
  rfl
theorem eqs_bel (n : Nat) (l : List EqM) : ∀ x ∈ l.map EqM.enc, x.bel n = true := by
  intro x hx
  obtain ⟨y, _, rfl⟩ := List.mem_map.1 hx
  exact A.eq_bel y n
theorem nodes_bel (n : Nat) (l : List NodeM) : ∀ x ∈ l.map NodeM.enc, x.bel n = true := by
  intro x hx
  obtain ⟨y, _, rfl⟩ := List.mem_map.1 hx
  exact A.node_bel y n
theorem cv55 (σ : Sto) (c : UInt8) : aConv prog σ 55 9 (.slf 1 [.val (.int .u8 ((c.toNat : Nat) : Int))]) = some (str (bs [c]), σ) := by
  rw [aConv_str (by kernel_rfl) (by kernel_rfl) σ _ (fun _ _ h => by cases h) (fun _ h => by cases h)]
  have h : aStrOf prog σ 55 9 (.slf 1 [.val (.int .u8 ((c.toNat : Nat) : Int))]) = some (str (bs [c])) := by
    unfold aStrOf
    rw [underlying55, underlying9]
    simp only [underlying5]
    have := bytesOf_map [c]
    simp only [List.map_cons, List.map_nil, byteAV] at this
    rw [this]
    rfl
  rw [h]
  rfl
theorem wrap_u8 (n : Nat) : IntKind.wrap .u8 (n : Int) = ((UInt8.ofNat n).toNat : Int) := by
  have hb : IntKind.bits .u8 = 8 := rfl
  have hs : IntKind.signed .u8 = false := rfl
  simp only [IntKind.wrap, hb, hs, Bool.false_and, Bool.false_eq_true, if_false]
  simp
theorem dig_val (m : Nat) : IntKind.wrap .u8 (IntKind.wrap .i64 (48 + ((m : Nat) : Int).tmod 10)) = (((UInt8.ofNat (48 + m % 10)).toNat : Nat) : Int) := by
  have h1 : ((m : Nat) : Int).tmod 10 = ((m % 10 : Nat) : Int) := by rw [Int.tmod_eq_emod_of_nonneg (by omega)]; omega
  rw [h1, wrap_i64 (by omega) (by omega)]
  rw [show (48 : Int) + ((m % 10 : Nat) : Int) = ((48 + m % 10 : Nat) : Int) by omega]
  exact wrap_u8 _
theorem quo_val {m : Nat} (h : m ≤ 9223372036854775807) : IntKind.wrap .i64 (((m : Nat) : Int).tdiv 10) = ((m / 10 : Nat) : Int) := by
  rw [Int.tdiv_eq_ediv_of_nonneg (by omega), wrap_i64 (by omega) (by omega)]
  omega
theorem dig_step (m : Nat) (a : List UInt8) : m / 10 ≠ 0 → Lib.decDigits (m / 10) ++ ([UInt8.ofNat (48 + m % 10)] ++ a) = Lib.decDigits m ++ a := by
  intro h
  conv => rhs; rw [Lib.decDigits]
  rw [dif_neg (by omega), List.append_assoc]
theorem dig_last (m : Nat) (a : List UInt8) (h : m / 10 = 0) : [UInt8.ofNat (48 + m % 10)] ++ a = Lib.decDigits m ++ a := by
  rw [Lib.decDigits, dif_pos (by omega), show m % 10 = m by omega]
theorem row16_89 (σ : Sto) : aRow prog false σ 89 16 [(0, .val (.int .i64 0)), (1, .val (.int .i64 1)), (2, .val (.int .i64 2)), (3, .val (.int .i64 2)), (4, .val (.int .i64 3)), (5, .val (.int .i64 4)), (6, .val (.int .i64 4)), (7, .val (.int .i64 4)), (8, .val (.int .i64 4)), (9, .val (.int .i64 4)), (10, .val (.int .i64 4)), (11, .val (.int .i64 5)), (12, .val (.int .i64 5)), (13, .val (.int .i64 6)), (14, .val (.int .i64 6)), (15, .val (.int .i64 6))] = some (.sl 1 [.val (.int .i64 0), .val (.int .i64 1), .val (.int .i64 2), .val (.int .i64 2), .val (.int .i64 3), .val (.int .i64 4), .val (.int .i64 4), .val (.int .i64 4), .val (.int .i64 4), .val (.int .i64 4), .val (.int .i64 4), .val (.int .i64 5), .val (.int .i64 5), .val (.int .i64 6), .val (.int .i64 6), .val (.int .i64 6)], σ) :=
  aRow_sl (by kernel_rfl) (by decide) (row89 (by decide) (by decide) rfl (A.parts_of rfl)) σ
theorem row16_51 (σ : Sto) : aRow prog false σ 51 16 [(0, .val (.string ⟨#[45, 62]⟩)), (1, .val (.string ⟨#[61, 62]⟩)), (2, .val (.string ⟨#[111, 114]⟩)), (3, .val (.string ⟨#[120, 111, 114]⟩)), (4, .val (.string ⟨#[97, 110, 100]⟩)), (5, .val (.string ⟨#[61]⟩)), (6, .val (.string ⟨#[60, 62]⟩)), (7, .val (.string ⟨#[60]⟩)), (8, .val (.string ⟨#[60, 61]⟩)), (9, .val (.string ⟨#[62]⟩)), (10, .val (.string ⟨#[62, 61]⟩)), (11, .val (.string ⟨#[43]⟩)), (12, .val (.string ⟨#[45]⟩)), (13, .val (.string ⟨#[42]⟩)), (14, .val (.string ⟨#[100, 105, 118]⟩)), (15, .val (.string ⟨#[109, 111, 100]⟩))] = some (.sl 1 [.val (.string ⟨#[45, 62]⟩), .val (.string ⟨#[61, 62]⟩), .val (.string ⟨#[111, 114]⟩), .val (.string ⟨#[120, 111, 114]⟩), .val (.string ⟨#[97, 110, 100]⟩), .val (.string ⟨#[61]⟩), .val (.string ⟨#[60, 62]⟩), .val (.string ⟨#[60]⟩), .val (.string ⟨#[60, 61]⟩), .val (.string ⟨#[62]⟩), .val (.string ⟨#[62, 61]⟩), .val (.string ⟨#[43]⟩), .val (.string ⟨#[45]⟩), .val (.string ⟨#[42]⟩), .val (.string ⟨#[100, 105, 118]⟩), .val (.string ⟨#[109, 111, 100]⟩)], σ) :=
  aRow_sl (by kernel_rfl) (by decide) (row51 (by decide) (by decide) rfl (A.parts_of rfl)) σ
def txtA : AV := .sl 1 [.val (.string ⟨#[45, 62]⟩), .val (.string ⟨#[61, 62]⟩), .val (.string ⟨#[111, 114]⟩), .val (.string ⟨#[120, 111, 114]⟩), .val (.string ⟨#[97, 110, 100]⟩), .val (.string ⟨#[61]⟩), .val (.string ⟨#[60, 62]⟩), .val (.string ⟨#[60]⟩), .val (.string ⟨#[60, 61]⟩), .val (.string ⟨#[62]⟩), .val (.string ⟨#[62, 61]⟩), .val (.string ⟨#[43]⟩), .val (.string ⟨#[45]⟩), .val (.string ⟨#[42]⟩), .val (.string ⟨#[100, 105, 118]⟩), .val (.string ⟨#[109, 111, 100]⟩)]
theorem at_slI {sz : Nat} {es : List AV} {p : Int} {a : AV} (h0 : 0 ≤ p) (h : es[p.toNat]? = some a) : aAt sz (.sl sz es) (.val (.int .i64 p)) = some (.er a.cells) := by
  obtain ⟨m, rfl⟩ := Int.eq_ofNat_of_zero_le h0
  exact at_sl h
theorem lev_at {p : Int} (h0 : 0 ≤ p) (h1 : p ≤ 15) : aAt 1 (.sl 1 [.val (.int .i64 0), .val (.int .i64 1), .val (.int .i64 2), .val (.int .i64 2), .val (.int .i64 3), .val (.int .i64 4), .val (.int .i64 4), .val (.int .i64 4), .val (.int .i64 4), .val (.int .i64 4), .val (.int .i64 4), .val (.int .i64 5), .val (.int .i64 5), .val (.int .i64 6), .val (.int .i64 6), .val (.int .i64 6)]) (.val (.int .i64 p)) = some (.er [i64 (opL p)]) := by
  refine at_slI h0 ?_ (a := i64 (opL p))
  obtain ⟨m, rfl⟩ := Int.eq_ofNat_of_zero_le h0
  have hm : m < 16 := by omega
  match m, hm with
  | 0, _ | 1, _ | 2, _ | 3, _ | 4, _ | 5, _ | 6, _ | 7, _ | 8, _ | 9, _ | 10, _ | 11, _ | 12, _ | 13, _ | 14, _ | 15, _ => rfl
theorem txt_at {p : Int} (h0 : 0 ≤ p) (h1 : p ≤ 15) : aAt 1 (.sl 1 [.val (.string ⟨#[45, 62]⟩), .val (.string ⟨#[61, 62]⟩), .val (.string ⟨#[111, 114]⟩), .val (.string ⟨#[120, 111, 114]⟩), .val (.string ⟨#[97, 110, 100]⟩), .val (.string ⟨#[61]⟩), .val (.string ⟨#[60, 62]⟩), .val (.string ⟨#[60]⟩), .val (.string ⟨#[60, 61]⟩), .val (.string ⟨#[62]⟩), .val (.string ⟨#[62, 61]⟩), .val (.string ⟨#[43]⟩), .val (.string ⟨#[45]⟩), .val (.string ⟨#[42]⟩), .val (.string ⟨#[100, 105, 118]⟩), .val (.string ⟨#[109, 111, 100]⟩)]) (.val (.int .i64 p)) = some (.er [str (bs (opT p))]) := by
  refine at_slI h0 ?_ (a := str (bs (opT p)))
  obtain ⟨m, rfl⟩ := Int.eq_ofNat_of_zero_le h0
  have hm : m < 16 := by omega
  match m, hm with
  | 0, _ | 1, _ | 2, _ | 3, _ | 4, _ | 5, _ | 6, _ | 7, _ | 8, _ | 9, _ | 10, _ | 11, _ | 12, _ | 13, _ | 14, _ | 15, _ => rfl
def preT (p : Int) : List UInt8 := if p == 0 then [45] else if p == 1 then [110, 111, 116] else [112, 114, 101]
theorem pre_at {p : Int} (h0 : 0 ≤ p) (h1 : p ≤ 2) : aAt 1 (.sl 1 [.val (.string ⟨#[45]⟩), .val (.string ⟨#[110, 111, 116]⟩), .val (.string ⟨#[112, 114, 101]⟩)]) (.val (.int .i64 p)) = some (.er [str (bs (preT p))]) := by
  refine at_slI h0 ?_ (a := str (bs (preT p)))
  obtain ⟨m, rfl⟩ := Int.eq_ofNat_of_zero_le h0
  have hm : m < 3 := by omega
  match m, hm with
  | 0, _ | 1, _ | 2, _ => rfl
theorem inter_mem (sep : List UInt8) {x : List UInt8} : ∀ {l : List (List UInt8)}, x ∈ l → x.length ≤ (sep.intercalate l).length
  | [a], h => by
    rw [List.mem_singleton.1 h, inter_one]
    exact Nat.le_refl _
  | a :: b :: l, h => by
    rw [inter_cons2]
    simp only [List.length_append]
    rcases List.mem_cons.1 h with rfl | h
    · omega
    · have := inter_mem sep h
      omega
/-- An operand's text is a part of it. -/
theorem tx_sub {k p n : Int} {s : ByteArray} {nl : Bool} {l : List E} (h1 : A.single k p n s l.length = true) {e : E} (he : e ∈ l) : (tx e).length ≤ (tx (.mk k p n s nl l)).length := by
  rw [tx_mk]
  have hne : 0 < l.length := List.length_pos_iff.2 fun h => by rw [h] at he; cases he
  unfold A.single at h1
  unfold txt
  split
  · rename_i g0
    rw [if_pos g0] at h1
    simp at h1
    rw [h1.2] at he
    cases he
  rename_i g0
  rw [if_neg g0] at h1
  split
  · rename_i g1
    rw [if_pos g1] at h1
    simp at h1
    rw [h1.2] at he
    cases he
  rename_i g1
  rw [if_neg g1] at h1
  split
  · rename_i g2
    rw [if_pos g2] at h1
    simp at h1
    rw [h1.2] at he
    cases he
  rename_i g2
  rw [if_neg g2] at h1
  split
  · rename_i g3
    rw [if_pos g3] at h1
    have hl : l.length = 1 := by simp at h1; omega
    obtain ⟨x, rfl⟩ := List.length_eq_one_iff.1 hl
    obtain rfl := List.mem_singleton.1 he
    have := oper_ge e 7 (tx e)
    simp only [List.length_append, List.map_cons, List.map_nil, List.getD_cons_zero]
    omega
  rename_i g3
  rw [if_neg g3] at h1
  split
  · rename_i g4
    rw [if_pos g4] at h1
    have hl : l.length = 2 := by simp at h1; omega
    obtain ⟨x, y, rfl⟩ := len2 hl
    have h2 := oper_ge x (leftA p) (tx x)
    have h3 := oper_ge y (rightA p) (tx y)
    simp only [List.length_append, List.map_cons, List.map_nil, List.getD_cons_zero, List.getD_cons_succ]
    rcases List.mem_cons.1 he with rfl | he
    · omega
    · obtain rfl := List.mem_singleton.1 he
      omega
  rename_i g4
  rw [if_neg g4] at h1
  split
  · rename_i g5
    rw [if_pos g5] at h1
    have hl : l.length = 3 := by simp at h1; omega
    obtain ⟨x, y, z, rfl⟩ := len3 hl
    simp only [List.length_append, List.map_cons, List.map_nil, List.getD_cons_zero, List.getD_cons_succ]
    simp only [List.mem_cons, List.not_mem_nil, or_false] at he
    rcases he with rfl | rfl | rfl <;> omega
  rename_i g5
  rw [if_neg g5] at h1
  split
  · have := inter_mem sepC (List.mem_map_of_mem (f := tx) he)
    simp only [List.length_append]
    omega
  · rename_i g6
    rw [if_neg g6] at h1
    cases h1
/-! Programs. -/
def tyT (t : Int) : List UInt8 := if t == 0 then [105, 110, 116] else [98, 111, 111, 108]
def varT (v : VarM) : List UInt8 := v.name.data.toList ++ [58, 32] ++ tyT v.type
def sepS : List UInt8 := [59, 32]
def varsT (l : List VarM) : List UInt8 := sepS.intercalate (l.map varT)
def lhsT (l : List ByteArray) : List UInt8 := if l.length > 1 then [40] ++ sepC.intercalate (l.map (·.data.toList)) ++ [41] else sepC.intercalate (l.map (·.data.toList))
def eqT (q : EqM) : List UInt8 := [32, 32] ++ (lhsT q.lhs ++ ([32, 61, 32] ++ (tx q.rhs ++ [59, 10])))
def nodeH (n : NodeM) : List UInt8 := [110, 111, 100, 101, 32] ++ (n.name.data.toList ++ ([40] ++ (varsT n.ins ++ ([41, 32, 114, 101, 116, 117, 114, 110, 115, 32, 40] ++ (varsT n.outs ++ ([41, 59, 10] ++ ((if n.locals.length > 0 then [118, 97, 114, 32] ++ (varsT n.locals ++ [59, 10]) else []) ++ [108, 101, 116, 10])))))))
def nodeT (n : NodeM) : List UInt8 := nodeH n ++ ((n.eqs.map eqT).flatten ++ [116, 101, 108, 10])
def progT (p : ProgM) : List UInt8 := (p.nodes.map nodeT).flatten
theorem ty_at {t : Int} (h0 : 0 ≤ t) (h1 : t ≤ 1) : aAt 1 (.sl 1 [.val (.string ⟨#[105, 110, 116]⟩), .val (.string ⟨#[98, 111, 111, 108]⟩)]) (.val (.int .i64 t)) = some (.er [str (bs (tyT t))]) := by
  rcases (show t = 0 ∨ t = 1 by omega) with rfl | rfl
  · exact at_sl0
  · exact at_sl1
def tyT2 (t : Int) : List UInt8 := [58, 32] ++ tyT t
theorem ty_at2 {t : Int} (h0 : 0 ≤ t) (h1 : t ≤ 1) : aAt 1 (.sl 1 [.val (.string ⟨#[58, 32, 105, 110, 116]⟩), .val (.string ⟨#[58, 32, 98, 111, 111, 108]⟩)]) (.val (.int .i64 t)) = some (.er [str (bs (tyT2 t))]) := by
  rcases (show t = 0 ∨ t = 1 by omega) with rfl | rfl
  · exact at_sl0
  · exact at_sl1
theorem at_row0 {sz : Nat} {nl : Bool} {l : List AV} {k : IntKind} {a : AV} (h : l[0]? = some a) : aAt sz (rowAV sz nl l) (.val (.int k 0)) = some (.er a.cells) := at_row (i := 0) h
theorem var_ok {v : VarM} (h : v.wrong = false) : v.name.size ≤ 60 ∧ 0 ≤ v.type ∧ v.type ≤ 1 := by
  simp [VarM.wrong] at h
  exact ⟨name_le h.1.1, by omega, by omega⟩
theorem varT_le {v : VarM} (h : v.wrong = false) : (varT v).length ≤ 66 := by
  have h1 := (var_ok h).1
  have e : v.name.data.toList.length = v.name.size := rfl
  unfold varT tyT
  split <;> simp <;> omega
theorem sum_const {α : Type} (f : α → Nat) (c : Nat) : ∀ l : List α, (∀ x ∈ l, f x ≤ c) → (l.map f).sum ≤ l.length * c
  | [], _ => by simp
  | a :: l, h => by
    have h1 := sum_const f c l fun x hx => h x (by simp [hx])
    have h2 := h a (by simp)
    simp only [List.map_cons, List.sum_cons, List.length_cons, Nat.succ_mul]
    omega
theorem varsR_mem {l : List VarM} (h : A.varsR l = true) : l.length ≤ 1000 ∧ ∀ v ∈ l, v.wrong = false := by
  simp only [A.varsR, Bool.and_eq_true, decide_eq_true_eq, Bool.not_eq_true', List.any_eq_false] at h
  exact ⟨by omega, fun v hv => by simpa using h.2 v hv⟩
theorem varsT_le {l : List VarM} (h : A.varsR l = true) : (varsT l).length ≤ 70000 := by
  obtain ⟨h1, h2⟩ := varsR_mem h
  have := inter_le sepS (l.map varT)
  have h3 := sum_const (fun v : VarM => (varT v).length + sepS.length) 68 l fun v hv => by have := varT_le (h2 v hv); simp [sepS]; omega
  rw [List.map_map] at this
  have e : (l.map ((fun t : List UInt8 => t.length + sepS.length) ∘ varT)).sum = (l.map fun v : VarM => (varT v).length + sepS.length).sum := rfl
  rw [e] at this
  unfold varsT
  omega
theorem row7_51 (σ : Sto) (a b c d e f g : ByteArray) : aRow prog false σ 51 7 [(0, .val (.string a)), (1, .val (.string b)), (2, .val (.string c)), (3, .val (.string d)), (4, .val (.string e)), (5, .val (.string f)), (6, .val (.string g))] = some (.sl 1 [.val (.string a), .val (.string b), .val (.string c), .val (.string d), .val (.string e), .val (.string f), .val (.string g)], σ) :=
  aRow_sl (by kernel_rfl) (by decide) (row51 (by decide) (by decide) rfl (by intro p hp; simp only [List.mem_cons, List.not_mem_nil, or_false] at hp; rcases hp with rfl | rfl | rfl | rfl | rfl | rfl | rfl <;> exact ⟨rfl, rfl⟩)) σ
theorem joinq {Γ : List (Nat × List AV)} (nl : Bool) (l : List ByteArray) (sep : List UInt8) (hN : l.length ≤ 140737488355328) (hlen : (sep.intercalate (l.map (·.data.toList))).length ≤ 140737488355328) :
    APure prog Γ 36 [rowAV 1 nl (l.map str), str (bs sep)] (str (bs (sep.intercalate (l.map (·.data.toList))))) := by
  have := join_calls (Γ := Γ) nl (l.map (·.data.toList)) sep (by simpa using hN) hlen
  rw [List.map_map] at this
  exact this
theorem names_le {l : List ByteArray} (h : ∀ s ∈ l, A.nameM s = true) : (sepC.intercalate (l.map (·.data.toList))).length ≤ l.length * 62 := by
  have h1 := inter_le sepC (l.map (·.data.toList))
  have h2 := sum_const (fun s : ByteArray => s.data.toList.length + sepC.length) 62 l fun s hs => by
    have := name_le (h s hs)
    have e : s.data.toList.length = s.size := rfl
    simp only [sepC, List.length_cons, List.length_nil]
    omega
  rw [List.map_map] at h1
  exact Nat.le_trans h1 h2
theorem eq_right {q : EqM} (h : q.right = true) : (1 ≤ q.lhs.length ∧ q.lhs.length ≤ 1000) ∧ (∀ s ∈ q.lhs, A.nameM s = true) ∧ q.rhs.shape = true := by
  simp only [EqM.right, A.exprR, Bool.and_eq_true, decide_eq_true_eq, Bool.not_eq_true', List.any_eq_false] at h
  obtain ⟨⟨⟨h1, h2⟩, h3⟩, h4, _⟩ := h
  exact ⟨⟨by omega, by omega⟩, fun s hs => by have := h3 s hs; simpa using this, h4⟩
theorem node_right {n : NodeM} (h : n.right = true) : A.nameM n.name = true ∧ A.varsR n.ins = true ∧ A.varsR n.outs = true ∧ A.varsR n.locals = true ∧ n.eqs.length ≤ 1000 ∧ ∀ q ∈ n.eqs, q.right = true := by
  simp only [NodeM.right, Bool.and_eq_true, decide_eq_true_eq, Bool.not_eq_true', List.any_eq_false] at h
  obtain ⟨⟨⟨h1, ⟨⟨h2, h3⟩, _⟩, h4⟩, h5⟩, h6⟩ := h
  exact ⟨h1, h2, h3, h4, by omega, fun q hq => by have := h6 q hq; simpa using this⟩
theorem at_app {Γ : List (Nat × List AV)} {f : Nat} {args : List AV} {o : Nat} {u : Bool} {t t' : List UInt8} (h : ∀ σ : Sto, o + 3 < σ.length → ACalls prog Γ f args (pb σ o u t) (fun v σ' => v = .tup [] ∧ σ' = pb σ o true t')) {σ : Sto} (ho : o + 3 < σ.length) (l : Sto) :
    ACalls prog Γ f args (pb σ o u t ++ l) (fun v σ' => v = .tup [] ∧ σ' = pb σ o true t' ++ l) := by
  have := h (σ ++ l) (by rw [List.length_append]; omega)
  rwa [pb_app ho, pb_app ho] at this
theorem put_atS {Γ : List (Nat × List AV)} {σ : Sto} {o : Nat} (ho : o + 3 < σ.length) (u : Bool) (t : List UInt8) (ls : List (List UInt8)) (hne : ls ≠ []) (hl : ls.length ≤ 1000) (hf : t.length + ls.flatten.length ≤ LIM) (l : Sto) :
    ACalls prog Γ 34 [.ref o 0, .sl 1 (ls.map fun x => str (bs x))] (pb σ o u t ++ l) (fun v σ' => σ' = pb σ o true (t ++ ls.flatten) ++ l ∧ v = .tup []) := (at_app (fun σ ho => put_calls ho u t ls hne hl hf) ho l).mono fun _ _ h => ⟨h.2, h.1⟩
/-! A builder that the call has made: behind one other object. -/
theorem pb_L (σ : Sto) (b : AO) (u u0 : Bool) (t t0 : List UInt8) (l : Sto) : pb (σ ++ (b :: .cells (bp (σ.length + 1) u0 t0) :: .gh (.shp (σ.length + 1) 59 2) :: .cap t0.length 1 :: .gh (.cty (σ.length + 1 + 2) t0.length 5) :: l)) (σ.length + 1) u t =
    σ ++ (b :: .cells (bp (σ.length + 1) u t) :: .gh (.shp (σ.length + 1) 59 2) :: .cap t.length 1 :: .gh (.cty (σ.length + 1 + 2) t.length 5) :: l) := by
  unfold pb
  rw [List.set_append_right _ _ (by omega), List.set_append_right _ _ (by omega), List.set_append_right _ _ (by omega), List.set_append_right _ _ (by omega)]
  rw [show σ.length + 1 - σ.length = 1 by omega, show σ.length + 1 + 1 - σ.length = 2 by omega, show σ.length + 1 + 2 - σ.length = 3 by omega, show σ.length + 1 + 3 - σ.length = 4 by omega]
  rfl
theorem at_L {Γ : List (Nat × List AV)} {f : Nat} {args : List AV} {u u' : Bool} {t t' : List UInt8} {vv : AV} (σ : Sto) (b : AO) (l : Sto) (h : ∀ τ : Sto, σ.length + 1 + 3 < τ.length → ACalls prog Γ f args (pb τ (σ.length + 1) u t) (fun v σ' => v = vv ∧ σ' = pb τ (σ.length + 1) u' t')) :
    ACalls prog Γ f args (σ ++ (b :: .cells (bp (σ.length + 1) u t) :: .gh (.shp (σ.length + 1) 59 2) :: .cap t.length 1 :: .gh (.cty (σ.length + 1 + 2) t.length 5) :: l))
      (fun v σ' => v = vv ∧ σ' = σ ++ (b :: .cells (bp (σ.length + 1) u' t') :: .gh (.shp (σ.length + 1) 59 2) :: .cap t'.length 1 :: .gh (.cty (σ.length + 1 + 2) t'.length 5) :: l)) := by
  have := h (σ ++ (b :: .cells (bp (σ.length + 1) u t) :: .gh (.shp (σ.length + 1) 59 2) :: .cap t.length 1 :: .gh (.cty (σ.length + 1 + 2) t.length 5) :: l)) (by simp; omega)
  rwa [pb_L, pb_L] at this
/-! What the walks share. -/
def binA : AV := .sl 2 (opsT.map fun x => .agg [str (bs x.1), i64 x.2])
/-- The package variables: the table of operators, the words, the table of powers. -/
abbrev GP (w : AV) : List (Nat × List AV) := [(0, [binA]), (1, [w]), (2, powV.map AV.val)]
theorem opnd_g0 {w : AV} (env : Env) : opnd (GP w) env (.global 0) = .er [binA] := rfl
theorem tabG {w : AV} : Tab (GP w) := by simp [Tab]
theorem bin_at {p : Int} (h0 : 0 ≤ p) (h1 : p ≤ 15) : aAt 2 binA (.val (.int .i64 p)) = some (.er [str (bs (opT p)), i64 (opL p)]) := by
  have hl : p.toNat < opsT.length := by simp [opsT]; omega
  refine at_slI h0 ?_ (a := .agg [str (bs (opT p)), i64 (opL p)])
  rw [List.getElem?_map, List.getElem?_eq_getElem hl]
  simp [opT, opL, hl]
/-- The printer puts an expression's text. -/
def ExprOk (w : AV) (e : E) : Prop := ∀ (σ : Sto) (o : Nat), o + 3 < σ.length → ∀ (u : Bool) (t : List UInt8), t.length + (tx e).length ≤ LIM → ACalls prog (GP w) 29 [.ref o 0, e.enc] (pb σ o u t) (fun v σ' => v = .tup [] ∧ σ' = pb σ o true (t ++ tx e))
theorem expr_at {w : AV} {e : E} (h : ExprOk w e) {σ : Sto} {o : Nat} (ho : o + 3 < σ.length) (u : Bool) (t : List UInt8) (hf : t.length + (tx e).length ≤ LIM) (l : Sto) :
    ACalls prog (GP w) 29 [.ref o 0, e.enc] (pb σ o u t ++ l) (fun v σ' => v = .tup [] ∧ σ' = pb σ o true (t ++ tx e) ++ l) := at_app (fun σ ho => h σ o ho u t hf) ho l
theorem expr_mk_at {w : AV} {k p n : Int} {s : ByteArray} {nl : Bool} {r : List E} (h : ExprOk w (.mk k p n s nl r)) {σ : Sto} {o : Nat} (ho : o + 3 < σ.length) (u : Bool) (t : List UInt8) (hf : t.length + (tx (.mk k p n s nl r)).length ≤ LIM) (l : Sto) :
    ACalls prog (GP w) 29 [.ref o 0, .agg [i64 k, i64 p, i64 n, str s, rowAV 5 nl (r.map E.enc)]] (pb σ o u t ++ l) (fun v σ' => v = .tup [] ∧ σ' = pb σ o true (t ++ tx (.mk k p n s nl r)) ++ l) := by
  have := expr_at h ho u t hf l
  rwa [E.enc_mk] at this
theorem put_at {Γ : List (Nat × List AV)} {σ : Sto} {o : Nat} (ho : o + 3 < σ.length) (u : Bool) (t : List UInt8) (ls : List (List UInt8)) (hne : ls ≠ []) (hl : ls.length ≤ 1000) (hf : t.length + ls.flatten.length ≤ LIM) (l : Sto) :
    ACalls prog Γ 34 [.ref o 0, .sl 1 (ls.map fun x => str (bs x))] (pb σ o u t ++ l) (fun v σ' => v = .tup [] ∧ σ' = pb σ o true (t ++ ls.flatten) ++ l) := at_app (fun σ ho => put_calls ho u t ls hne hl hf) ho l
end Pr
end Go.Proofs.Tryd
/-! Texts: the program's own expressions have the same; how long they are. -/
namespace Go.Proofs.Tryd
set_option linter.unusedSimpArgs false
set_option linter.unusedVariables false
open Go Go.Proofs.Ev
namespace Pr
open A (E VarM EqM NodeM ProgM)
theorem lev_norm (e : E) : lev e.norm = lev e := by
  cases e
  rw [E.norm_mk]
  rfl
theorem unPre_norm (o : Int) (e : E) : unPre o e.norm = unPre o e := by
  cases e
  rw [E.norm_mk]
  rfl
theorem oper_norm (e : E) (a : Int) (t : List UInt8) : oper e.norm a t = oper e a t := by unfold oper; rw [lev_norm]
theorem getD_norm (l : List E) (i : Nat) : (l.map E.norm).getD i e0 = (l.getD i e0).norm := by
  rw [List.getD_eq_getElem?_getD, List.getD_eq_getElem?_getD, List.getElem?_map]
  cases l[i]? with
  | none => rfl
  | some x => rfl
theorem txt_norm (k o n : Int) (s : ByteArray) (l : List E) (ts : List (List UInt8)) : txt k o n s (l.map E.norm) ts = txt k o n s l ts := by
  unfold txt
  simp only [getD_norm, unPre_norm, oper_norm]
theorem tx_norm : ∀ e : E, tx e.norm = tx e := E.ind fun k o n s nl l ih => by
  rw [E.norm_mk, tx_mk, tx_mk, txt_norm, List.map_map]
  congr 1
  exact List.map_congr_left ih
theorem rng_norm {e : E} (h : ∀ d ∈ e.pre, rng d) : ∀ d ∈ e.norm.pre, rng d := by
  rw [A.norm_pre]
  intro d hd
  obtain ⟨x, hx, rfl⟩ := List.mem_map.1 hd
  have := h x hx
  cases x
  rw [E.norm_mk]
  exact this
theorem eqT_own (q : EqM) : eqT q.own = eqT q := by simp [eqT, EqM.own, tx_norm]
theorem nodeT_own (n : NodeM) : nodeT n.own = nodeT n := by
  have : n.own.eqs.map eqT = n.eqs.map eqT := by
    show (n.eqs.map EqM.own).map eqT = _
    rw [List.map_map]
    exact List.map_congr_left fun q _ => eqT_own q
  unfold nodeT
  rw [this]
  rfl
theorem progT_own (p : ProgM) : progT p.own = progT p := by
  unfold progT
  show ((p.nodes.map NodeM.own).map nodeT).flatten = _
  rw [List.map_map]
  congr 1
  exact List.map_congr_left fun n _ => nodeT_own n
/-! How long. -/
theorem flat_len {α β : Type} (f : α → List β) : ∀ l : List α, (l.map f).flatten.length = (l.map fun x => (f x).length).sum
  | [] => rfl
  | a :: l => by simp [flat_len f l]
theorem sum_le2 {α : Type} (f g : α → Nat) (c : Nat) : ∀ l : List α, (∀ x ∈ l, f x ≤ c + 100 * g x) → (l.map f).sum ≤ l.length * c + 100 * (l.map g).sum
  | [], _ => by simp
  | a :: l, h => by
    have h1 := sum_le2 f g c l fun x hx => h x (by simp [hx])
    have h2 := h a (by simp)
    simp only [List.map_cons, List.sum_cons, List.length_cons, Nat.succ_mul]
    omega
theorem eqT_le {q : EqM} (h : q.right = true) (hg : ∀ d ∈ q.rhs.pre, rng d) : (eqT q).length ≤ 70000 + 100 * q.rhs.size := by
  obtain ⟨⟨h1, h2⟩, h3, h4⟩ := eq_right h
  have h5 := names_le h3
  have h6 := tx_le q.rhs h4 hg
  have h7 : (lhsT q.lhs).length ≤ (sepC.intercalate (q.lhs.map (·.data.toList))).length + 2 := by
    unfold lhsT
    split
    · simp only [List.length_append, List.length_cons, List.length_nil]
      omega
    · omega
  simp only [eqT, List.length_append, List.length_cons, List.length_nil]
  omega
theorem nodeT_le {n : NodeM} (h : n.right = true) (hg : ∀ q ∈ n.eqs, ∀ d ∈ q.rhs.pre, rng d) (he : n.eqs.length ≤ 40) : (nodeT n).length ≤ 3100000 + 100 * A.totE n.eqs := by
  obtain ⟨h1, h2, h3, h4, _, h6⟩ := node_right h
  have a1 := name_le h1
  have e : n.name.data.toList.length = n.name.size := rfl
  have a2 := varsT_le h2
  have a3 := varsT_le h3
  have a4 := varsT_le h4
  have a5 : (nodeH n).length ≤ 220000 := by
    unfold nodeH
    split <;> simp only [List.length_append, List.length_cons, List.length_nil] <;> omega
  have a6 := sum_le2 (fun q : EqM => (eqT q).length) (fun q => q.rhs.size) 70000 n.eqs fun q hq => eqT_le (h6 q hq) (hg q hq)
  have a7 : (nodeT n).length = (nodeH n).length + ((n.eqs.map eqT).flatten.length + 4) := by simp [nodeT]
  rw [a7, flat_len]
  unfold A.totE
  omega
theorem prog_right {p : ProgM} (h : p.right = true) : ∀ n ∈ p.nodes, n.right = true := by
  simp only [ProgM.right, Bool.and_eq_true, Bool.not_eq_true', List.any_eq_false] at h
  intro n hn
  have := h.2 n hn
  simpa using this
theorem progT_le {p : ProgM} (h : p.right = true) (hg : ∀ n ∈ p.nodes, ∀ q ∈ n.eqs, ∀ d ∈ q.rhs.pre, rng d) (hgr : p.great = false) : (progT p).length ≤ 100000000 := by
  simp only [ProgM.great, Bool.or_eq_false_iff, decide_eq_false_iff_not, List.any_eq_false] at hgr
  obtain ⟨h1, h2, h3⟩ := hgr
  have h4 : ∀ n ∈ p.nodes, n.eqs.length ≤ 40 := fun n hn => by
    have := h1 n hn
    simp only [NodeM.great, NodeM.big, Bool.or_eq_true, decide_eq_true_eq, not_or] at this
    omega
  have h5 := sum_le2 (fun n : NodeM => (nodeT n).length) (fun n => A.totE n.eqs) 3100000 p.nodes fun n hn => nodeT_le (prog_right h n hn) (hg n hn) (h4 n hn)
  unfold progT
  rw [flat_len]
  have h6 : (p.nodes.map fun n => A.totE n.eqs).sum = A.totN p.nodes := rfl
  omega
theorem own_rng {p : ProgM} (hg : ∀ n ∈ p.nodes, ∀ q ∈ n.eqs, ∀ d ∈ q.rhs.pre, rng d) : ∀ n ∈ p.own.nodes, ∀ q ∈ n.eqs, ∀ d ∈ q.rhs.pre, rng d := by
  intro n hn q hq
  obtain ⟨m, hm, rfl⟩ := List.mem_map.1 (show n ∈ p.nodes.map NodeM.own from hn)
  obtain ⟨r, hr, rfl⟩ := List.mem_map.1 (show q ∈ m.eqs.map EqM.own from hq)
  exact rng_norm (hg m hm r hr)
end Pr
end Go.Proofs.Tryd
/-! What the row of PrintTells takes: the package variables, a world that holds them. -/
namespace Go.Proofs.YtnfimclkiccdhaaDoor
set_option linter.unusedSimpArgs false
set_option linter.unusedVariables false
open Go Go.ChangeShapes Go.WideShapes Go.ChangeAt Go.RowKit Go.Proofs.Ev Go.Proofs.Tryd
namespace Lr
theorem own : ownKnob Tryd.prog.godebug = none := by kernel_rfl
theorem laidOut : laidOutB Tryd.prog = true := by kernel_rfl
theorem gPow : Tryd.prog.globalNamed "internal/strconv.uint64pow10" = some 2 := by kernel_rfl
theorem gPowType : (Tryd.prog.globals[2]?).map (·.type) = some 130 := by kernel_rfl
theorem gWords : Tryd.prog.globalNamed "shuttlecock/ast.words" = some 1 := by kernel_rfl
theorem gWordsType : (Tryd.prog.globals[1]?).map (·.type) = some 124 := by kernel_rfl
theorem gBin : Tryd.prog.globalNamed "shuttlecock/print.binary" = some 0 := by kernel_rfl
theorem gBinType : (Tryd.prog.globals[0]?).map (·.type) = some 110 := by kernel_rfl
theorem cells9 : Tryd.prog.cellsOf 9 = 1 := by kernel_rfl
theorem cells3 : Tryd.prog.cellsOf 3 = 1 := by kernel_rfl
theorem cells117 : Tryd.prog.cellsOf 117 = 1 := by kernel_rfl
theorem cells109 : Tryd.prog.cellsOf 109 = 2 := by kernel_rfl
theorem cells130 : Tryd.prog.cellsOf 130 = 20 := by kernel_rfl
theorem slot1 {α : Type} {cs : List α} {v : α} {i : Nat} (h : (cs.drop i).take 1 = [v]) : cs[i]? = some v := by
  have := congrArg (·[0]?) h
  simpa [List.getElem?_take, List.getElem?_drop] using this
def dtB (x : List UInt8 × Int) : DataW Unit := .agg [.lit (.string x.1), .lit (.int .i64 x.2)]
def enB (x : List UInt8 × Int) : AV := .agg [Pr.str (Pr.bs x.1), Pr.i64 x.2]
theorem dec_b {W : World} {base : Nat} {sp : Nat → Bool} {held : Bool} {n : Nat} {cs : List Value} {x : DataW Unit × List MemPlace} {a : List UInt8 × Int} (h : DataW.trod (fun _ => ()) Tryd.prog W base sp held n 109 cs = some x) (hx : x.1 = dtB a) : CellsOf W (enB a).cells cs := by
  obtain ⟨y0, y1, m, rfl, hl, h0, h1⟩ := Go.ChangeShapes.trod_struct2 Tryd.underlying109 h
  simp only [dtB, DataW.agg.injEq, List.cons.injEq, and_true] at hx
  obtain ⟨e0, e1⟩ := hx
  obtain ⟨s, c0, d0, _⟩ := DataW.trod_string Tryd.underlying9 h0
  obtain ⟨n1, c1, d1, _⟩ := DataW.trod_int Tryd.underlying3 h1
  subst d0 d1
  simp only [DataW.lit.injEq, Lit.int.injEq, Lit.string.injEq, true_and] at e0 e1
  change (cs.drop 0).take (Tryd.prog.cellsOf 9) = _ at c0
  rw [cells9] at c0
  have k0 := slot1 c0
  change (cs.drop 1).take (Tryd.prog.cellsOf 3) = _ at c1
  rw [cells3] at c1
  have k1 := slot1 c1
  rw [cells109] at hl
  obtain ⟨v0, v1, rfl⟩ := Pr.len2 hl
  simp only [List.getElem?_cons_zero, List.getElem?_cons_succ, Option.some.injEq] at k0 k1
  subst k0 k1 e1
  have hs : s = Pr.bs a.1 := by rw [← e0]; rfl
  subst hs
  exact ⟨⟨rfl, rfl, trivial⟩, fun v hv => by simp at hv; rcases hv with rfl | rfl <;> rfl⟩
theorem findS_mem_iff : ∀ (l : List ByteArray) (s : ByteArray), (findS l s).isSome = true ↔ s ∈ l
  | [], s => by simp [findS]
  | a :: l, s => by
    have := findS_mem_iff l s
    simp only [findS, List.mem_cons]
    split
    · rename_i h
      simp [h]
    · rename_i h
      simp [h, this]
theorem bytes_list {s t : ByteArray} (h : s.data.toList = t.data.toList) : s = t := by
  apply Go.WideShapes.bytes_inj
  exact h
/-- The entries of the list that the text lays. -/
def laidL : List (Lit × DataW Unit) := A.words.map fun s => (.string s.data.toList, .lit (.bool true))
theorem laidL_eq : (Rows.laid_shuttlecock_ast_words : DataW Unit) = .map laidL := by kernel_rfl
set_option maxRecDepth 100000 in
theorem keyOf_str {v : Value} {key : Lit} (h : keyOf Tryd.prog 9 v = some key) : ∃ s : ByteArray, v = .string s ∧ key = .string s.data.toList := by
  unfold keyOf at h
  rw [Tryd.underlying9] at h
  simp only [mapKey, Tryd.underlying9] at h
  cases v with
  | string s =>
    simp only at h
    split at h
    · exact ⟨s, rfl, (Option.some.inj h).symm⟩
    · cases h
  | _ => cases h
theorem mapM_pairs {α β : Type} {f : α → Option β} : ∀ {l : List α} {r : List β}, l.mapM f = some r → Pairs (fun a b => f a = some b) l r
  | [], r, h => by
    simp at h
    subst h
    exact .nil
  | a :: l, r, h => by
    simp only [List.mapM_cons, Option.bind_eq_bind, Option.bind_eq_some_iff] at h
    obtain ⟨b, h1, r', h2, h3⟩ := h
    simp at h3
    subst h3
    exact .cons h1 (mapM_pairs h2)
set_option maxRecDepth 100000 in
theorem entries_of {W : World} {base : Nat} {sp : Nat → Bool} {held : Bool} {n : Nat} : ∀ {es : List MapEntry} {ents : List ((Lit × DataW Unit) × List MemPlace)},
    Pairs (fun (x : MapEntry) y => ((keyOf Tryd.prog 9 x.key).bind fun key => if x.val.formed Tryd.prog 4 then (DataW.trod (fun _ => ()) Tryd.prog W base sp held n 4 x.val.cells.toList).map fun y => ((key, y.1), y.2) else none) = some y) es ents →
    (∀ p ∈ ents.map (·.1), p.2 = .lit (.bool true)) → ∃ ks : List ByteArray, es.map (·.key) = ks.map Value.string ∧ es.map (·.val) = List.replicate ks.length (.bool true) ∧ ents.map (·.1.1) = ks.map fun s => .string s.data.toList
  | [], _, .nil, _ => ⟨[], rfl, rfl, rfl⟩
  | x :: es, y :: ents, .cons h hs, hv => by
    obtain ⟨ks, k1, k2, k3⟩ := entries_of hs fun p hp => hv p (by simp only [List.map_cons]; exact List.mem_cons_of_mem _ hp)
    obtain ⟨key, h1, h2⟩ := Option.bind_eq_some_iff.1 h
    split at h2 <;> try (simp at h2; done)
    rename_i hform
    obtain ⟨z, h3, h4⟩ := Option.map_eq_some_iff.1 h2
    obtain ⟨s, e1, e2⟩ := keyOf_str h1
    have hb := hv y.1 (by simp)
    rw [← h4] at hb
    simp only at hb
    obtain ⟨b, hc, hz⟩ := DataW.trod_bool Tryd.underlying4 h3
    rw [hz] at hb
    simp only [DataW.lit.injEq, Lit.bool.injEq] at hb
    rw [hb] at hc
    have hval : x.val = .bool true := by
      unfold Value.formed at hform
      rw [Tryd.underlying4] at hform
      cases hx : x.val with
      | bool c =>
        rw [hx] at hc
        simpa [Value.cells] using hc
      | agg cs =>
        rw [hx] at hform
        cases hform
      | _ =>
        rw [hx] at hc
        simp [Value.cells] at hc
    refine ⟨s :: ks, by rw [List.map_cons, List.map_cons, k1, e1], by rw [List.map_cons, k2, hval]; rfl, ?_⟩
    rw [List.map_cons, List.map_cons, k3, ← h4, e2]
theorem var_cells {W : World} {g : Nat} {s : String} {cs : Array Value} {vs : List AV} (hg : Tryd.prog.globalNamed s = some g) (hvar : W.var? Tryd.prog s = some cs) (hc : RelL (C0 W) vs cs.toList) (ho : ∀ v ∈ cs.toList, v.oneCell' = true) : RelAt (C0 W) vs g 0 := by
  have hsz : g < W.heap.size := by
    unfold World.var? at hvar
    rw [hg] at hvar
    simp only [Option.bind_some] at hvar
    split at hvar
    · rename_i hh
      exact (Array.getElem?_eq_some_iff.1 hh).1
    · cases hvar
  exact relAt_cells (fun off => fix0 off hsz) hc ho (fun j v hj => by
    have := World.var?_cell hg hvar j
    show W.cell? ⟨g, 0 + j, none⟩ = some v
    rw [Nat.zero_add, ← hj]
    simpa using this)
set_option maxRecDepth 100000 in
theorem words_of {W : World} {cs : Array Value} {fuel : Nat} {p : List MemPlace} (hd : DataW.trod (fun _ => ()) Tryd.prog W 0 (fun _ => true) false fuel 124 cs.toList = some (Rows.laid_shuttlecock_ast_words, p)) : ∃ ks : List ByteArray, (RelL (C0 W) [.mapf (ks.map Value.string) (List.replicate ks.length (A.bool true))] cs.toList ∧ ∀ v ∈ cs.toList, v.oneCell' = true) ∧ ∀ s, (findS ks s).isSome = A.wordM s := by
  rw [laidL_eq] at hd
  cases fuel with
  | zero => simp [DataW.trod] at hd
  | succ n =>
    have hcs : ∃ b, cs.toList = [.map (some b)] := by
      unfold DataW.trod at hd
      rw [Tryd.underlying124] at hd
      split at hd <;> first | (exact ⟨_, rfl⟩) | (rename_i hc; exact ⟨_, hc⟩) | (simp at hd; done) | (simp_all; done)
    obtain ⟨b, hcb⟩ := hcs
    rw [hcb] at hd
    unfold DataW.trod at hd
    rw [Tryd.underlying124] at hd
    simp only at hd
    split at hd <;> try (simp at hd; done)
    rename_i es clock hb
    split at hd <;> try (simp at hd; done)
    obtain ⟨ents, he1, he2⟩ := Option.bind_eq_some_iff.1 hd
    split at he2 <;> try (simp at he2; done)
    have hL : (ents.map (·.1)).foldr DataW.insert [] = laidL := by
      simp only [Option.some.injEq, Prod.mk.injEq, DataW.map.injEq] at he2
      exact he2.1
    have hperm : laidL.Perm (ents.map (·.1)) := by
      rw [← hL]
      exact sorted_perm _
    obtain ⟨ks, k1, k2, k3⟩ := entries_of (mapM_pairs he1) fun p hp => by
      have := hperm.mem_iff.2 hp
      simp only [laidL, List.mem_map] at this
      obtain ⟨s, _, rfl⟩ := this
      rfl
    have hks : ∀ s, s ∈ ks ↔ s ∈ A.words := by
      intro s
      have e1 : (A.words.map fun s => Lit.string s.data.toList).Perm (ks.map fun s => Lit.string s.data.toList) := by
        have h5 : laidL.map (·.1) = A.words.map (fun s => Lit.string s.data.toList) := by
          unfold laidL
          rw [List.map_map]
          rfl
        have h6 : (ents.map (·.1)).map (·.1) = ents.map (·.1.1) := by
          rw [List.map_map]
          rfl
        have := hperm.map (·.1)
        rw [h5, h6, k3] at this
        exact this
      have e2 := e1.mem_iff (a := Lit.string s.data.toList)
      simp only [List.mem_map, Lit.string.injEq] at e2
      constructor
      · intro hs
        obtain ⟨t, h1, h2⟩ := e2.2 ⟨s, hs, rfl⟩
        rwa [bytes_list h2] at h1
      · intro hs
        obtain ⟨t, h1, h2⟩ := e2.1 ⟨s, hs, rfl⟩
        rwa [bytes_list h2] at h1
    refine ⟨ks, ⟨?_, fun v hv => by rw [hcb] at hv; simp at hv; subst hv; rfl⟩, fun s => ?_⟩
    · rw [hcb]
      refine ⟨⟨b, es, clock, rfl, fixB0 (Array.getElem?_eq_some_iff.1 hb).1, hb, k1, ?_⟩, trivial⟩
      rw [k2]
      clear k1 k2 k3 hks
      induction ks with
      | nil => trivial
      | cons a l ih => exact ⟨rfl, ih⟩
    · rw [Bool.eq_iff_iff, findS_mem_iff]
      unfold A.wordM
      rw [findS_mem_iff]
      exact hks s
set_option maxRecDepth 100000 in
theorem bin_eq : (Rows.laid_shuttlecock_print_binary : DataW Unit) = .slice (Pr.opsT.map dtB) [] := by kernel_rfl
set_option maxRecDepth 100000 in
theorem pow_eq : (Rows.laid_internal_strconv_uint64pow10 : DataW Unit) = .agg (Lib.pow10Tab.map fun z => .lit (.int .u64 z)) := by kernel_rfl
theorem tab_of {W : World} {cs : List Value} {fuel : Nat} {p : List MemPlace} (hd : DataW.trod (fun _ => ()) Tryd.prog W 0 (fun _ => true) false fuel 130 cs = some (Rows.laid_internal_strconv_uint64pow10, p)) : cs = Pr.powV := by
  rw [pow_eq] at hd
  obtain ⟨xs, m, rfl, hx, hl, hn, hi⟩ := DataW.trod_array Tryd.underlying130 hd
  rw [cells130] at hl
  simp only [Prod.mk.injEq, DataW.agg.injEq] at hx
  have hp : Lib.pow10Tab.length = 20 := Lib.pow10Tab_length
  apply List.ext_getElem?
  intro i
  by_cases h : i < 20
  · have hy := hi i h
    rw [cells117, Nat.mul_one] at hy
    have hxi : xs[i]? = some xs[i] := List.getElem?_eq_getElem (by omega)
    rw [hxi] at hy
    obtain ⟨z, c, d, _⟩ := DataW.trod_int Tryd.underlying117 hy
    rw [slot1 c]
    have e := congrArg (·[i]?) hx.1
    simp only [List.getElem?_map, hxi, d, Option.map_some] at e
    obtain ⟨q, e1, e2⟩ := Option.map_eq_some_iff.1 e
    simp only [DataW.lit.injEq, Lit.int.injEq, true_and] at e2
    subst e2
    rw [Pr.powV, List.getElem?_map, e1]
    rfl
  · rw [List.getElem?_eq_none (by omega), List.getElem?_eq_none (by simp [Pr.powV, hp]; omega)]
abbrev wv (ks : List ByteArray) : AV := .mapf (ks.map Value.string) (List.replicate ks.length (A.bool true))
theorem whole_of {W : World} {g : Nat} {s : String} {cs : Array Value} (hg : Tryd.prog.globalNamed s = some g) (hvar : W.var? Tryd.prog s = some cs) : Whole (C0 W) g cs.size := by
  unfold World.var? at hvar
  rw [hg] at hvar
  simp only [Option.bind_some] at hvar
  split at hvar
  · rename_i cs' T fr hh
    cases hvar
    exact ⟨_, _, _, hh, rfl⟩
  · cases hvar
theorem vals_rel (C : Ctx) : ∀ l : List Value, RelL C (l.map AV.val) l
  | [] => trivial
  | v :: l => ⟨rfl, vals_rel C l⟩
theorem wall (W : World) (h : laidMetH Tryd.prog Rows.printTellsUptoRow.laid W) : ∃ ks : List ByteArray, RelG (C0 W) (Pr.GP (wv ks)) ∧ A.Words (Pr.GP (wv ks)) := by
  have h1 : laidMet Tryd.prog Rows.printTellsUptoRow.laid W := h
  obtain ⟨ps, ⟨g1, t1, cs1, fu1, p1, q1, hg1, ht1, hv1, hd1, ⟨g2, t2, cs2, fu2, p2, q2, hg2, ht2, hv2, hd2, ⟨g3, t3, cs3, fu3, p3, q3, hg3, ht3, hv3, hd3, ⟨g4, t4, cs4, fu4, p4, q4, hg4, ht4, hv4, hd4, ⟨g5, t5, cs5, fu5, p5, q5, hg5, ht5, hv5, hd5, _, _⟩, _⟩, _⟩, _⟩, _⟩, _⟩ := h1
  obtain rfl := Option.some.inj (gPow.symm.trans hg3)
  obtain rfl := Option.some.inj (gPowType.symm.trans ht3)
  obtain rfl := Option.some.inj (gWords.symm.trans hg4)
  obtain rfl := Option.some.inj (gWordsType.symm.trans ht4)
  obtain rfl := Option.some.inj (gBin.symm.trans hg5)
  obtain rfl := Option.some.inj (gBinType.symm.trans ht5)
  obtain ⟨ks, hw1, hw2⟩ := words_of hd4
  have hc5 := dec_sliceD (sz := 2) enB dtB Tryd.underlying110 cells109 (by decide) (fun _ => rfl) (fun n cs x a => dec_b) hd5 Pr.opsT [] bin_eq
  have hc3 := tab_of hd3
  refine ⟨ks, ?_, ks, rfl, hw2⟩
  intro x hx
  simp only [Pr.GP, List.mem_cons, List.not_mem_nil, or_false] at hx
  rcases hx with rfl | rfl | rfl
  · exact ⟨var_cells gBin hv5 hc5.1 hc5.2, fun h => absurd h (by simp)⟩
  · exact ⟨var_cells gWords hv4 hw1.1 hw1.2, fun h => absurd h (by simp)⟩
  · refine ⟨var_cells gPow hv3 (by rw [hc3]; exact vals_rel _ _) (fun v hv => ?_), fun _ => ?_⟩
    · rw [hc3] at hv
      obtain ⟨z, _, rfl⟩ := List.mem_map.1 hv
      rfl
    · have := whole_of gPow hv3
      have e : cs3.size = (Pr.powV.map AV.val).length := by rw [List.length_map, ← hc3]; simp
      rwa [e] at this
noncomputable def laidB : Obj := .cells (((Pr.opsT.map fun x => [Value.string ⟨x.1.toArray⟩, Value.int .i64 x.2]).flatten).toArray) 109 (0, 0)
noncomputable def laidM : Obj := .map ((A.words.toArray.mapIdx fun i s => { key := .string s, val := .bool true, born := i })) 20
def putCells (v : Array Value) : Obj → Obj
  | .cells _ t frozen => .cells v t frozen
  | o => o
def tab6 : Array Value := #[.int .u8 0, .int .u8 1, .int .u8 28, .int .u8 2, .int .u8 29, .int .u8 14, .int .u8 24, .int .u8 3, .int .u8 30, .int .u8 22, .int .u8 20, .int .u8 15, .int .u8 25, .int .u8 17, .int .u8 4, .int .u8 8, .int .u8 31, .int .u8 27, .int .u8 13, .int .u8 23, .int .u8 21, .int .u8 19, .int .u8 16, .int .u8 7, .int .u8 26, .int .u8 12, .int .u8 18, .int .u8 6, .int .u8 11, .int .u8 5, .int .u8 10, .int .u8 9]
def tab7 : Array Value := #[.int .u8 0, .int .u8 1, .int .u8 56, .int .u8 2, .int .u8 57, .int .u8 49, .int .u8 28, .int .u8 3, .int .u8 61, .int .u8 58, .int .u8 42, .int .u8 50, .int .u8 38, .int .u8 29, .int .u8 17, .int .u8 4, .int .u8 62, .int .u8 47, .int .u8 59, .int .u8 36, .int .u8 45, .int .u8 43, .int .u8 51, .int .u8 22, .int .u8 53, .int .u8 39, .int .u8 33, .int .u8 30, .int .u8 24, .int .u8 18, .int .u8 12, .int .u8 5, .int .u8 63, .int .u8 55, .int .u8 48, .int .u8 27, .int .u8 60, .int .u8 41, .int .u8 37, .int .u8 16, .int .u8 46, .int .u8 35, .int .u8 44, .int .u8 21, .int .u8 52, .int .u8 32, .int .u8 23, .int .u8 11, .int .u8 54, .int .u8 26, .int .u8 40, .int .u8 15, .int .u8 34, .int .u8 20, .int .u8 31, .int .u8 10, .int .u8 25, .int .u8 14, .int .u8 19, .int .u8 9, .int .u8 13, .int .u8 8, .int .u8 7, .int .u8 6]
def tab5 : Array Value := #[.int .u64 1, .int .u64 10, .int .u64 100, .int .u64 1000, .int .u64 10000, .int .u64 100000, .int .u64 1000000, .int .u64 10000000, .int .u64 100000000, .int .u64 1000000000, .int .u64 10000000000, .int .u64 100000000000, .int .u64 1000000000000, .int .u64 10000000000000, .int .u64 100000000000000, .int .u64 1000000000000000, .int .u64 10000000000000000, .int .u64 100000000000000000, .int .u64 1000000000000000000, .int .u64 10000000000000000000]
noncomputable def laidWorld (os : Os) : World :=
  let W := World.holding Tryd.prog os ⟨#[laidB, laidM], #[], []⟩
  let n := (World.settled Tryd.prog os).heap.size
  { W with heap := ((((W.heap.modify 0 (putCells #[.slice (some ⟨n, 0, none⟩) 16 16])).modify 1 (putCells #[.map (some (n + 1))])).modify 2 (putCells tab5)).modify 4 (putCells tab6)).modify 5 (putCells tab7) }
end Lr
end Go.Proofs.YtnfimclkiccdhaaDoor
/-! Programs of the document, as they are read, and how much they hold. -/
namespace Go.Proofs.Tryd
set_option linter.unusedSimpArgs false
set_option linter.unusedVariables false
open Go Go.Proofs.Ev
namespace A
variable {H : Type} {enc : TypeId × Value → H} {W : World} {base : Nat} {sp : Nat → Bool} {held : Bool} {B : DataW H → Nat}
def E.nm : E → ByteArray
  | .mk _ _ _ s _ _ => s
def eB (e : E) (b : Nat) : Prop := e.size ≤ b ∧ ∀ d ∈ e.pre, d.nm.size ≤ b ∧ Pr.rng d
theorem eB.fits {e : E} {b : Nat} (h : eB e b) (hb : b ≤ 1100000) : e.fits := fun d hd => by
  have := (h.2 d hd).1
  cases d
  simp only [E.nm, E.fit] at this ⊢
  omega
theorem pairs_size {l : List E} {ds : List (DataW H)} (h : Pairs (fun e d => eB e (B d)) l ds) : sizeL l ≤ (ds.map B).sum := by
  induction h with
  | nil => exact Nat.le_refl _
  | cons h1 _ ih =>
    have := h1.1
    simp only [sizeL, List.map_cons, List.sum_cons]
    omega
theorem pairs_names {l : List E} {ds : List (DataW H)} (h : Pairs (fun e d => eB e (B d)) l ds) : ∀ d ∈ preL l, d.nm.size ≤ (ds.map B).sum ∧ Pr.rng d := by
  induction h with
  | nil => intro d hd; cases hd
  | @cons e b l m h1 _ ih =>
    intro d hd
    simp only [preL, List.mem_append] at hd
    simp only [List.map_cons, List.sum_cons]
    rcases hd with hd | hd
    · have := h1.2 d hd
      exact ⟨by omega, this.2⟩
    · have := ih d hd
      exact ⟨by omega, this.2⟩
theorem sum5 (a b c d e : Nat) : [a, b, c, d, e].sum = a + b + c + d + e := by simp [List.sum_cons]; omega
theorem dec_expr (hB : Bulk B) : ∀ (n : Nat) (cs : List Value) (x : DataW H × List MemPlace), DataW.trod enc Tryd.prog W base sp held n 27 cs = some x → ∃ e : E, CellsOf W e.enc.cells cs ∧ eB e (B x.1) := by
  intro n
  induction n using Nat.strongRecOn with
  | ind n ih =>
    intro cs x h
    obtain ⟨xs, m, hm, rfl, hl, hlen, hf⟩ := DataW.trod_struct underlying27 h
    obtain ⟨y0, q0, g0⟩ := field_atB hlen hf 0 rfl (t := 3) (o := 0) (k := 1) rfl rfl (by kernel_rfl)
    obtain ⟨a0, c0, w0⟩ := dec_int underlying3 g0
    obtain ⟨y1, q1, g1⟩ := field_atB hlen hf 1 rfl (t := 3) (o := 1) (k := 1) rfl rfl (by kernel_rfl)
    obtain ⟨a1, c1, w1⟩ := dec_int underlying3 g1
    obtain ⟨y2, q2, g2⟩ := field_atB hlen hf 2 rfl (t := 2) (o := 2) (k := 1) rfl rfl (by kernel_rfl)
    obtain ⟨a2, c2, w2⟩ := dec_int underlying2 g2
    obtain ⟨y3, q3, g3⟩ := field_atB hlen hf 3 rfl (t := 9) (o := 3) (k := 1) rfl rfl (by kernel_rfl)
    obtain ⟨a3, c3, w3⟩ := dec_strB underlying9 g3
    obtain ⟨y4, q4, g4⟩ := field_atB hlen hf 4 rfl (t := 25) (o := 4) (k := 1) rfl rfl (by kernel_rfl)
    obtain ⟨nl, l, ds, sps, c4, w4, z4, p4⟩ := dec_sliceB (sz := 5) E.enc (fun e d => eB e (B d)) underlying25 (e := 27) (by kernel_rfl) (by decide) (fun e => enc_len e) (fun k hk cs x hx => ih k (by omega) cs x hx) g4
    have hall := CellsOf.all (CellsOf.snoc (CellsOf.snoc (CellsOf.snoc (CellsOf.snoc (CellsOf.snoc (CellsOf.start cs) c0) c1) c2) c3) c4) (by rw [hl]; kernel_rfl)
    refine ⟨.mk a0 a1 a2 a3 nl l, by rw [E.enc_mk]; exact hall, ?_⟩
    have hxs := list_of (xs := xs) [y0, y1, y2, y3, y4] (by rw [hlen]; rfl) (fun i y hi => by
      match i, hi with
      | 0, hi => rw [q0]; exact hi
      | 1, hi => rw [q1]; exact hi
      | 2, hi => rw [q2]; exact hi
      | 3, hi => rw [q3]; exact hi
      | 4, hi => rw [q4]; exact hi
      | _ + 5, hi => simp at hi)
    rw [hxs]
    have hb := hB.agg ([y0, y1, y2, y3, y4].map (·.1))
    simp only [List.map_cons, List.map_nil] at hb ⊢
    rw [sum5] at hb
    have b3 := hB.ofStr w3
    have b4 := hB.row w4
    have s4 := pairs_size p4
    refine ⟨by simp only [E.size]; omega, fun d hd => ?_⟩
    simp only [E.pre, List.mem_cons] at hd
    rcases hd with rfl | hd
    · refine ⟨?_, ?_⟩
      · simp only [E.nm]
        omega
      · simp only [Lit.wf, Bool.and_eq_true, decide_eq_true_eq] at w2
        have h1 : IntKind.i64.min = -9223372036854775808 := by decide
        have h2 : IntKind.i64.max = 9223372036854775807 := by decide
        rw [h1, h2] at w2
        exact w2
    · have := pairs_names p4 d hd
      exact ⟨by omega, this.2⟩
def varB (v : VarM) (b : Nat) : Prop := v.name.size ≤ b
theorem dec_var (hB : Bulk B) {n : Nat} {cs : List Value} {x : DataW H × List MemPlace} (h : DataW.trod enc Tryd.prog W base sp held n 85 cs = some x) : ∃ v : VarM, CellsOf W v.enc.cells cs ∧ varB v (B x.1) := by
  obtain ⟨xs, m, hm, rfl, hl, hlen, hf⟩ := DataW.trod_struct underlying85 h
  obtain ⟨y0, q0, g0⟩ := field_atB hlen hf 0 rfl (t := 9) (o := 0) (k := 1) rfl rfl (by kernel_rfl)
  obtain ⟨a0, c0, w0⟩ := dec_strB underlying9 g0
  obtain ⟨y1, q1, g1⟩ := field_atB hlen hf 1 rfl (t := 3) (o := 1) (k := 1) rfl rfl (by kernel_rfl)
  obtain ⟨a1, c1, w1⟩ := dec_int underlying3 g1
  have hall := CellsOf.all (CellsOf.snoc (CellsOf.snoc (CellsOf.start cs) c0) c1) (by rw [hl]; kernel_rfl)
  refine ⟨⟨a0, a1⟩, hall, ?_⟩
  have hb := hB.agg (xs.map (·.1))
  have hm0 := sum_get (B := B) (d := y0.1) (ds := xs.map (·.1)) (List.mem_map.2 ⟨y0, List.mem_of_getElem? q0, rfl⟩)
  have b0 := hB.ofStr w0
  simp only [varB]
  omega
theorem dec_text {n : Nat} (hB : Bulk B) {cs : List Value} {x : DataW H × List MemPlace} (h : DataW.trod enc Tryd.prog W base sp held n 9 cs = some x) : ∃ s : ByteArray, CellsOf W (str s).cells cs ∧ s.size ≤ B x.1 := by
  obtain ⟨a0, c0, w0⟩ := dec_strB underlying9 h
  have := hB.ofStr w0
  exact ⟨a0, c0, by omega⟩
def eqB (q : EqM) (b : Nat) : Prop := (q.lhs.length ≤ b ∧ ∀ s ∈ q.lhs, s.size ≤ b) ∧ eB q.rhs b
theorem eB.mono {e : E} {b c : Nat} (h : eB e b) (hb : b ≤ c) : eB e c := ⟨Nat.le_trans h.1 hb, fun d hd => ⟨Nat.le_trans (h.2 d hd).1 hb, (h.2 d hd).2⟩⟩
theorem dec_eq (hB : Bulk B) {n : Nat} {cs : List Value} {x : DataW H × List MemPlace} (h : DataW.trod enc Tryd.prog W base sp held n 53 cs = some x) : ∃ q : EqM, CellsOf W q.enc.cells cs ∧ eqB q (B x.1) := by
  obtain ⟨xs, m, hm, rfl, hl, hlen, hf⟩ := DataW.trod_struct underlying53 h
  obtain ⟨y0, q0, g0⟩ := field_atB hlen hf 0 rfl (t := 51) (o := 0) (k := 1) rfl rfl (by kernel_rfl)
  obtain ⟨nl, l, ds, sps, c0, w0, z0, p0⟩ := dec_sliceB (sz := 1) str (fun s d => s.size ≤ B d) underlying51 (e := 9) (by kernel_rfl) (by decide) (fun _ => rfl) (fun k _ cs x hx => dec_text hB hx) g0
  obtain ⟨y1, q1, g1⟩ := field_atB hlen hf 1 rfl (t := 27) (o := 1) (k := 5) rfl rfl (by kernel_rfl)
  obtain ⟨e, c1, w1⟩ := dec_expr hB _ _ _ g1
  have hall := CellsOf.all (CellsOf.snoc (CellsOf.snoc (CellsOf.start cs) c0) c1) (by rw [hl]; kernel_rfl)
  refine ⟨⟨nl, l, e⟩, hall, ?_⟩
  show eqB _ (B (.agg (xs.map (·.1))))
  have hb := hB.agg (xs.map (·.1))
  have m0 := sum_get (B := B) (d := y0.1) (ds := xs.map (·.1)) (List.mem_map.2 ⟨y0, List.mem_of_getElem? q0, rfl⟩)
  have m1 := sum_get (B := B) (d := y1.1) (ds := xs.map (·.1)) (List.mem_map.2 ⟨y1, List.mem_of_getElem? q1, rfl⟩)
  have b0 := hB.row w0
  have l0 := p0.length
  have k0 := hB.len ds
  refine ⟨⟨by simp only; omega, fun s hs => ?_⟩, w1.mono (by omega)⟩
  obtain ⟨d, hd, hsd⟩ := p0.mem hs
  have := sum_get (B := B) hd
  omega
def varsB (l : List VarM) (b : Nat) : Prop := l.length ≤ b ∧ ∀ v ∈ l, varB v b
theorem dec_vars (hB : Bulk B) {n : Nat} {cs : List Value} {x : DataW H × List MemPlace} (h : DataW.trod enc Tryd.prog W base sp held n 47 cs = some x) : ∃ (nl : Bool) (l : List VarM), CellsOf W [rowAV 2 nl (l.map VarM.enc)] cs ∧ varsB l (B x.1) := by
  obtain ⟨nl, l, ds, sps, c0, w0, z0, p0⟩ := dec_sliceB (sz := 2) VarM.enc (fun v d => varB v (B d)) underlying47 (e := 85) (by kernel_rfl) (by decide) (fun _ => rfl) (fun k _ cs x hx => dec_var hB hx) h
  have b0 := hB.row w0
  have l0 := p0.length
  have k0 := hB.len ds
  refine ⟨nl, l, c0, by omega, fun v hv => ?_⟩
  obtain ⟨d, hd, hvd⟩ := p0.mem hv
  have := sum_get (B := B) hd
  simp only [varB] at hvd ⊢
  omega
def nodeB (n : NodeM) (b : Nat) : Prop := n.name.size ≤ b ∧ varsB n.ins b ∧ varsB n.outs b ∧ varsB n.locals b ∧ (n.eqs.length ≤ b ∧ ∀ q ∈ n.eqs, eqB q b) ∧ totE n.eqs ≤ b
theorem varsB.mono {l : List VarM} {b c : Nat} (h : varsB l b) (hb : b ≤ c) : varsB l c := ⟨Nat.le_trans h.1 hb, fun v hv => Nat.le_trans (h.2 v hv) hb⟩
theorem eqB.mono {q : EqM} {b c : Nat} (h : eqB q b) (hb : b ≤ c) : eqB q c := ⟨⟨Nat.le_trans h.1.1 hb, fun s hs => Nat.le_trans (h.1.2 s hs) hb⟩, h.2.mono hb⟩
theorem nodeB.mono {n : NodeM} {b c : Nat} (h : nodeB n b) (hb : b ≤ c) : nodeB n c :=
  ⟨Nat.le_trans h.1 hb, h.2.1.mono hb, h.2.2.1.mono hb, h.2.2.2.1.mono hb, ⟨Nat.le_trans h.2.2.2.2.1.1 hb, fun q hq => (h.2.2.2.2.1.2 q hq).mono hb⟩, Nat.le_trans h.2.2.2.2.2 hb⟩
theorem dec_node (hB : Bulk B) {n : Nat} {cs : List Value} {x : DataW H × List MemPlace} (h : DataW.trod enc Tryd.prog W base sp held n 50 cs = some x) : ∃ q : NodeM, CellsOf W q.enc.cells cs ∧ nodeB q (B x.1) := by
  obtain ⟨xs, m, hm, rfl, hl, hlen, hf⟩ := DataW.trod_struct underlying50 h
  obtain ⟨y0, q0, g0⟩ := field_atB hlen hf 0 rfl (t := 9) (o := 0) (k := 1) rfl rfl (by kernel_rfl)
  obtain ⟨a0, c0, w0⟩ := dec_strB underlying9 g0
  obtain ⟨y1, q1, g1⟩ := field_atB hlen hf 1 rfl (t := 47) (o := 1) (k := 1) rfl rfl (by kernel_rfl)
  obtain ⟨nl1, l1, c1, w1⟩ := dec_vars hB g1
  obtain ⟨y2, q2, g2⟩ := field_atB hlen hf 2 rfl (t := 47) (o := 2) (k := 1) rfl rfl (by kernel_rfl)
  obtain ⟨nl2, l2, c2, w2⟩ := dec_vars hB g2
  obtain ⟨y3, q3, g3⟩ := field_atB hlen hf 3 rfl (t := 47) (o := 3) (k := 1) rfl rfl (by kernel_rfl)
  obtain ⟨nl3, l3, c3, w3⟩ := dec_vars hB g3
  obtain ⟨y4, q4, g4⟩ := field_atB hlen hf 4 rfl (t := 48) (o := 4) (k := 1) rfl rfl (by kernel_rfl)
  obtain ⟨nl4, l4, ds, sps, c4, w4, z4, p4⟩ := dec_sliceB (sz := 6) EqM.enc (fun q d => eqB q (B d)) underlying48 (e := 53) (by kernel_rfl) (by decide) (fun q => eq_len q) (fun k _ cs x hx => dec_eq hB hx) g4
  have hall := CellsOf.all (CellsOf.snoc (CellsOf.snoc (CellsOf.snoc (CellsOf.snoc (CellsOf.snoc (CellsOf.start cs) c0) c1) c2) c3) c4) (by rw [hl]; kernel_rfl)
  refine ⟨⟨a0, nl1, l1, nl2, l2, nl3, l3, nl4, l4⟩, hall, ?_⟩
  show nodeB _ (B (.agg (xs.map (·.1))))
  have hb := hB.agg (xs.map (·.1))
  have m0 := sum_get (B := B) (d := y0.1) (ds := xs.map (·.1)) (List.mem_map.2 ⟨y0, List.mem_of_getElem? q0, rfl⟩)
  have m1 := sum_get (B := B) (d := y1.1) (ds := xs.map (·.1)) (List.mem_map.2 ⟨y1, List.mem_of_getElem? q1, rfl⟩)
  have m2 := sum_get (B := B) (d := y2.1) (ds := xs.map (·.1)) (List.mem_map.2 ⟨y2, List.mem_of_getElem? q2, rfl⟩)
  have m3 := sum_get (B := B) (d := y3.1) (ds := xs.map (·.1)) (List.mem_map.2 ⟨y3, List.mem_of_getElem? q3, rfl⟩)
  have m4 := sum_get (B := B) (d := y4.1) (ds := xs.map (·.1)) (List.mem_map.2 ⟨y4, List.mem_of_getElem? q4, rfl⟩)
  have b0 := hB.ofStr w0
  have b4 := hB.row w4
  have l4' := p4.length
  have k4 := hB.len ds
  have s4 := p4.sum (f := fun q : EqM => q.rhs.size) (g := B) (fun q d h => h.2.1)
  refine ⟨by simp only; omega, w1.mono (by omega), w2.mono (by omega), w3.mono (by omega), ⟨by simp only; omega, fun q hq => ?_⟩, by simp only [totE]; omega⟩
  obtain ⟨d, hd, hqd⟩ := p4.mem hq
  have := sum_get (B := B) hd
  exact hqd.mono (by omega)
def progB (p : ProgM) (b : Nat) : Prop := (p.nodes.length ≤ b ∧ ∀ n ∈ p.nodes, nodeB n b) ∧ totN p.nodes ≤ b
theorem dec_prog (hB : Bulk B) {n : Nat} {cs : List Value} {x : DataW H × List MemPlace} (h : DataW.trod enc Tryd.prog W base sp held n 24 cs = some x) : ∃ p : ProgM, CellsOf W p.enc.cells cs ∧ progB p (B x.1) := by
  obtain ⟨xs, m, hm, rfl, hl, hlen, hf⟩ := DataW.trod_struct underlying24 h
  obtain ⟨y0, q0, g0⟩ := field_atB hlen hf 0 rfl (t := 22) (o := 0) (k := 1) rfl rfl (by kernel_rfl)
  obtain ⟨nl, l, ds, sps, c0, w0, z0, p0⟩ := dec_sliceB (sz := 5) NodeM.enc (fun q d => nodeB q (B d)) underlying22 (e := 50) (by kernel_rfl) (by decide) (fun _ => rfl) (fun k _ cs x hx => dec_node hB hx) g0
  have hall := CellsOf.all (CellsOf.snoc (CellsOf.start cs) c0) (by rw [hl]; kernel_rfl)
  refine ⟨⟨nl, l⟩, hall, ?_⟩
  show progB _ (B (.agg (xs.map (·.1))))
  have hb := hB.agg (xs.map (·.1))
  have m0 := sum_get (B := B) (d := y0.1) (ds := xs.map (·.1)) (List.mem_map.2 ⟨y0, List.mem_of_getElem? q0, rfl⟩)
  have b0 := hB.row w0
  have l0 := p0.length
  have k0 := hB.len ds
  have s0 := p0.sum (f := fun q : NodeM => totE q.eqs) (g := B) (fun q d h => h.2.2.2.2.2)
  refine ⟨⟨by simp only; omega, fun q hq => ?_⟩, by simp only [totN]; omega⟩
  obtain ⟨d, hd, hqd⟩ := p0.mem hq
  have := sum_get (B := B) hd
  exact hqd.mono (by omega)
theorem varsB.ok {l : List VarM} {b : Nat} (h : varsB l b) (hb : b ≤ 1100000) : varsOk l := ⟨Nat.le_trans h.1 hb, fun v hv => Nat.le_trans (h.2 v hv) hb⟩
theorem progB.ok {p : ProgM} {b : Nat} (h : progB p b) (hb : b ≤ 1100000) : p.ok :=
  ⟨Nat.le_trans h.1.1 hb, fun n hn => by
    obtain ⟨h1, h2, h3, h4, h5, h6⟩ := h.1.2 n hn
    exact ⟨Nat.le_trans h1 hb, h2.ok hb, h3.ok hb, h4.ok hb, Nat.le_trans h5.1 hb, fun q hq => by
      obtain ⟨g1, g2⟩ := h5.2 q hq
      exact ⟨⟨Nat.le_trans g1.1 hb, fun s hs => Nat.le_trans (g1.2 s hs) hb⟩, Nat.le_trans g2.1 hb, g2.fits hb⟩⟩⟩
end A
end Go.Proofs.Tryd
/-! Printing: function 76. -/
namespace Go.Proofs.Tryd
set_option linter.unusedSimpArgs false
set_option linter.unusedVariables false
open Go Go.Proofs.Ev
namespace Pr
variable {Γ : List (Nat × List AV)}
set_option maxRecDepth 100000 in
open A (E VarM EqM NodeM ProgM) in
theorem level_calls {w : AV} (k p n : Int) (s : ByteArray) (nl : Bool) (l : List E) (hp : k = 4 → 0 ≤ p ∧ p ≤ 15) : APure prog (GP w) 76 [E.enc (.mk k p n s nl l)] (i64 (lev (.mk k p n s nl l))) := by
  refine APure.of func76 rfl fun σ => ?_
  simp only [ntmps76, List.length_cons, List.length_nil, Nat.reduceAdd, Nat.reduceSub, List.replicate_succ, List.replicate_zero, List.cons_append, List.nil_append]
  rw [E.enc_mk]
  refine AW.regl false [1, 2] (by rfl) fun K1 hK1 => ?_ -- region 0
  simp only [go_sem, Nat.reduceAdd, Nat.reduceEqDiff, Nat.reduceLeDiff, true_and, List.length_map, len_row, one_row, A.enc_one, A.enc_len, pb_geta, pb_geta0, pb_seta, pb_seta0, pb_len, bs_size]
  refine hK1 _ _ ?_; try clear hK1 K1
  conv => enter [5]; simp only [setL_cons, setL_nil, List.set_cons_zero, List.set_cons_succ]
  refine AW.seq_k fun K2 hK2 => ?_
  refine AW.regl false [4] (by rfl) fun K3 hK3 => ?_ -- region 1
  simp only [go_sem, Nat.reduceAdd, Nat.reduceEqDiff, Nat.reduceLeDiff, true_and, List.length_map, len_row, one_row, A.enc_one, A.enc_len, pb_geta, pb_geta0, pb_seta, pb_seta0, pb_len, bs_size]
  refine hK3 _ _ ?_; try clear hK3 K3
  conv => enter [5]; simp only [setL_cons, setL_nil, List.set_cons_zero, List.set_cons_succ]
  refine AW.block ?_
  refine AW.regl false [5] (by rfl) fun K4 hK4 => ?_ -- region 2
  simp only [go_sem, Nat.reduceAdd, Nat.reduceEqDiff, Nat.reduceLeDiff, true_and, List.length_map, len_row, one_row, A.enc_one, A.enc_len, pb_geta, pb_geta0, pb_seta, pb_seta0, pb_len, bs_size]
  refine hK4 _ _ ?_; try clear hK4 K4
  conv => enter [5]; simp only [setL_cons, setL_nil, List.set_cons_zero, List.set_cons_succ]
  refine AW.cond rfl (fun hc5 => ?_) (fun hc5 => ?_)
  · skip
    have hk : lev (.mk k p n s nl l) = -1 := by rw [lev_mk, if_pos hc5]
    refine AW.regl false [2] (by rfl) fun K5 hK5 => ?_ -- region 3
    simp only [go_sem, Nat.reduceAdd, Nat.reduceEqDiff, Nat.reduceLeDiff, true_and, List.length_map, len_row, one_row, A.enc_one, A.enc_len, pb_geta, pb_geta0, pb_seta, pb_seta0, pb_len, bs_size]
    refine hK5 _ _ ?_; try clear hK5 K5
    conv => enter [5]; simp only [setL_cons, setL_nil, List.set_cons_zero, List.set_cons_succ]
    refine AW.ret ⟨.inr rfl, _, rfl, by simp, ?_⟩ -- return 1
    rw [hk]
    exact .keep rfl
  · skip
    refine AW.regl false [7] (by rfl) fun K6 hK6 => ?_ -- region 4
    simp only [go_sem, Nat.reduceAdd, Nat.reduceEqDiff, Nat.reduceLeDiff, true_and, List.length_map, len_row, one_row, A.enc_one, A.enc_len, pb_geta, pb_geta0, pb_seta, pb_seta0, pb_len, bs_size]
    refine hK6 _ _ ?_; try clear hK6 K6
    conv => enter [5]; simp only [setL_cons, setL_nil, List.set_cons_zero, List.set_cons_succ]
    refine AW.cond rfl (fun hc7 => ?_) (fun hc7 => ?_)
    · skip
      have hk : lev (.mk k p n s nl l) = opL p := by rw [lev_mk, if_neg (ne_true_of_eq_false hc5), if_pos hc7]
      obtain ⟨h0, h1⟩ := hp (by simpa using hc7)
      refine AW.regl false [2] (by rfl) fun K7 hK7 => ?_ -- region 5
      simp only [go_sem, Nat.reduceAdd, Nat.reduceEqDiff, Nat.reduceLeDiff, true_and, List.length_map, len_row, one_row, A.enc_one, A.enc_len, pb_geta, pb_geta0, pb_seta, pb_seta0, pb_len, bs_size, opndF_global, opnd_g0, bin_at h0 h1]
      refine hK7 _ _ ?_; try clear hK7 K7
      conv => enter [5]; simp only [setL_cons, setL_nil, List.set_cons_zero, List.set_cons_succ]
      refine AW.ret ⟨.inr rfl, _, rfl, by simp, ?_⟩ -- return 2
      rw [hk]
      exact .keep rfl
    · skip
      refine AW.regl false [15] (by rfl) fun K8 hK8 => ?_ -- region 6
      simp only [go_sem, Nat.reduceAdd, Nat.reduceEqDiff, Nat.reduceLeDiff, true_and, List.length_map, len_row, one_row, A.enc_one, A.enc_len, pb_geta, pb_geta0, pb_seta, pb_seta0, pb_len, bs_size]
      refine hK8 _ _ ?_; try clear hK8 K8
      conv => enter [5]; simp only [setL_cons, setL_nil, List.set_cons_zero, List.set_cons_succ]
      refine AW.cond rfl (fun hc15 => ?_) (fun hc15 => ?_)
      · skip
        have hk : lev (.mk k p n s nl l) = 7 := by rw [lev_mk, if_neg (ne_true_of_eq_false hc5), if_neg (ne_true_of_eq_false hc7), if_pos hc15]
        refine AW.regl false [2] (by rfl) fun K9 hK9 => ?_ -- region 7
        simp only [go_sem, Nat.reduceAdd, Nat.reduceEqDiff, Nat.reduceLeDiff, true_and, List.length_map, len_row, one_row, A.enc_one, A.enc_len, pb_geta, pb_geta0, pb_seta, pb_seta0, pb_len, bs_size]
        refine hK9 _ _ ?_; try clear hK9 K9
        conv => enter [5]; simp only [setL_cons, setL_nil, List.set_cons_zero, List.set_cons_succ]
        refine AW.ret ⟨.inr rfl, _, rfl, by simp, ?_⟩ -- return 3
        rw [hk]
        exact .keep rfl
      · skip
        have hk : lev (.mk k p n s nl l) = 8 := by rw [lev_mk, if_neg (ne_true_of_eq_false hc5), if_neg (ne_true_of_eq_false hc7), if_neg (ne_true_of_eq_false hc15)]
        refine AW.skip ?_
        refine hK2 _ _ ?_; try clear hK2 K2
        refine AW.regl false [2] (by rfl) fun K10 hK10 => ?_ -- region 8
        simp only [go_sem, Nat.reduceAdd, Nat.reduceEqDiff, Nat.reduceLeDiff, true_and, List.length_map, len_row, one_row, A.enc_one, A.enc_len, pb_geta, pb_geta0, pb_seta, pb_seta0, pb_len, bs_size]
        refine hK10 _ _ ?_; try clear hK10 K10
        conv => enter [5]; simp only [setL_cons, setL_nil, List.set_cons_zero, List.set_cons_succ]
        refine AW.ret ⟨.inr rfl, _, rfl, by simp, ?_⟩ -- return 4
        rw [hk]
        exact .keep rfl
end Pr
end Go.Proofs.Tryd
/-! Printing: function 62. -/
namespace Go.Proofs.Tryd
set_option linter.unusedSimpArgs false
set_option linter.unusedVariables false
open Go Go.Proofs.Ev
namespace Pr
variable {Γ : List (Nat × List AV)}
set_option maxRecDepth 100000 in
open A (E VarM EqM NodeM ProgM) in
theorem operand_calls {w : AV} {σ : Sto} {o : Nat} (ho : o + 3 < σ.length) (k p n : Int) (s : ByteArray) (nl : Bool) (l : List E) (hp : k = 4 → 0 ≤ p ∧ p ≤ 15) (ih : ExprOk w (.mk k p n s nl l)) (u : Bool) (t : List UInt8) (a : Int) (hf : t.length + (oper (.mk k p n s nl l) a (tx (.mk k p n s nl l))).length ≤ LIM) : ACalls prog (GP w) 62 [.ref o 0, E.enc (.mk k p n s nl l), i64 a] (pb σ o u t) (fun v σ' => v = .tup [] ∧ σ' = pb σ o true (t ++ oper (.mk k p n s nl l) a (tx (.mk k p n s nl l)))) := by
  refine ACalls.ofT func62 rfl ?_
  simp only [ntmps62, List.length_cons, List.length_nil, Nat.reduceAdd, Nat.reduceSub, List.replicate_succ, List.replicate_zero, List.cons_append, List.nil_append]
  rw [E.enc_mk]
  have hlv := level_calls (w := w) k p n s nl l hp
  rw [E.enc_mk] at hlv
  refine AW.regl false [4] (by rfl) fun K1 hK1 => ?_ -- region 0
  simp only [go_sem, Nat.reduceAdd, Nat.reduceEqDiff, Nat.reduceLeDiff, true_and, List.length_map, len_row, one_row, A.enc_one, A.enc_len, pb_geta, pb_geta0, pb_seta, pb_seta0, pb_len, bs_size]
  refine hK1 _ _ ?_; try clear hK1 K1
  conv => enter [5]; simp only [setL_cons, setL_nil, List.set_cons_zero, List.set_cons_succ]
  refine AW.seq_k fun K2 hK2 => ?_
  refine AW.regl false [9] (by rfl) fun K3 hK3 => ?_ -- region 1
  simp only [go_sem, Nat.reduceAdd, Nat.reduceEqDiff, Nat.reduceLeDiff, true_and, List.length_map, len_row, one_row, A.enc_one, A.enc_len, pb_geta, pb_geta0, pb_seta, pb_seta0, pb_len, bs_size]
  refine sC.of en76 (hlv.on _).here (by rfl) ?_
  simp only [go_sem, Nat.reduceAdd, Nat.reduceEqDiff, Nat.reduceLeDiff, true_and, List.length_map, len_row, one_row, A.enc_one, A.enc_len, pb_geta, pb_geta0, pb_seta, pb_seta0, pb_len, bs_size]
  refine hK3 _ _ ?_; try clear hK3 K3
  conv => enter [5]; simp only [setL_cons, setL_nil, List.set_cons_zero, List.set_cons_succ]
  refine AW.cond rfl (fun hc9 => ?_) (fun hc9 => ?_)
  · skip
    have ho1 : oper (.mk k p n s nl l) a (tx (.mk k p n s nl l)) = tx (.mk k p n s nl l) := by unfold oper; rw [if_pos (by simpa using hc9)]
    rw [ho1] at hf ⊢
    refine AW.regl false [] (by rfl) fun K4 hK4 => ?_ -- region 2
    simp only [go_sem, Nat.reduceAdd, Nat.reduceEqDiff, Nat.reduceLeDiff, true_and, List.length_map, len_row, one_row, A.enc_one, A.enc_len, pb_geta, pb_geta0, pb_seta, pb_seta0, pb_len, bs_size]
    refine sC.ofR en29 (expr_mk_at ih ho u t hf _) (fun v' σ' hR => ?_)
    obtain ⟨rfl, rfl⟩ := hR
    simp only [go_sem, Nat.reduceAdd, Nat.reduceEqDiff, Nat.reduceLeDiff, true_and, List.length_map, len_row, one_row, A.enc_one, A.enc_len, pb_geta, pb_geta0, pb_seta, pb_seta0, pb_len, bs_size]
    refine hK4 _ _ ?_; try clear hK4 K4
    conv => enter [5]; simp only [setL_cons, setL_nil, List.set_cons_zero, List.set_cons_succ]
    exact AW.ret ⟨.inr rfl, _, rfl, _, _, rfl, by simp only [pb_len], fun j a h => pb_keep2 ho j a h, rfl, ⟨rfl, congrArg (pb σ o true) (by rfl)⟩⟩
  · skip
    have ho1 : oper (.mk k p n s nl l) a (tx (.mk k p n s nl l)) = brk (tx (.mk k p n s nl l)) := by unfold oper; rw [if_neg (by simpa using hc9)]
    rw [ho1] at hf ⊢
    simp only [brk, List.length_append, List.length_cons, List.length_nil] at hf
    refine AW.skip ?_
    refine hK2 _ _ ?_; try clear hK2 K2
    refine AW.regl false [] (by rfl) fun K5 hK5 => ?_ -- region 3
    simp only [go_sem, Nat.reduceAdd, Nat.reduceEqDiff, Nat.reduceLeDiff, true_and, List.length_map, len_row, one_row, A.enc_one, A.enc_len, pb_geta, pb_geta0, pb_seta, pb_seta0, pb_len, bs_size]
    refine sC.ofR en34 (put_at ho u _ [[40]] (by simp) (by simp) (by simp [bs_size]; omega) _) (fun v' σ' hR => ?_)
    obtain ⟨rfl, rfl⟩ := hR
    simp only [go_sem, Nat.reduceAdd, Nat.reduceEqDiff, Nat.reduceLeDiff, true_and, List.length_map, len_row, one_row, A.enc_one, A.enc_len, pb_geta, pb_geta0, pb_seta, pb_seta0, pb_len, bs_size]
    refine hK5 _ _ ?_; try clear hK5 K5
    conv => enter [5]; simp only [setL_cons, setL_nil, List.set_cons_zero, List.set_cons_succ]
    refine AW.regl false [] (by rfl) fun K6 hK6 => ?_ -- region 4
    simp only [go_sem, Nat.reduceAdd, Nat.reduceEqDiff, Nat.reduceLeDiff, true_and, List.length_map, len_row, one_row, A.enc_one, A.enc_len, pb_geta, pb_geta0, pb_seta, pb_seta0, pb_len, bs_size]
    refine sC.ofR en29 (expr_mk_at ih ho true _ (by simp; omega) _) (fun v' σ' hR => ?_)
    obtain ⟨rfl, rfl⟩ := hR
    simp only [go_sem, Nat.reduceAdd, Nat.reduceEqDiff, Nat.reduceLeDiff, true_and, List.length_map, len_row, one_row, A.enc_one, A.enc_len, pb_geta, pb_geta0, pb_seta, pb_seta0, pb_len, bs_size]
    refine hK6 _ _ ?_; try clear hK6 K6
    conv => enter [5]; simp only [setL_cons, setL_nil, List.set_cons_zero, List.set_cons_succ]
    refine AW.lastl false [] (by rfl) fun K hK => ?_ -- region 5
    simp only [go_sem, Nat.reduceAdd, Nat.reduceEqDiff, Nat.reduceLeDiff, true_and, List.length_map, len_row, one_row, A.enc_one, A.enc_len, pb_geta, pb_geta0, pb_seta, pb_seta0, pb_len, bs_size]
    refine sC.ofR en34 (put_at ho true _ [[41]] (by simp) (by simp) (by simp [bs_size]; omega) _) (fun v' σ' hR => ?_)
    obtain ⟨rfl, rfl⟩ := hR
    simp only [go_sem, Nat.reduceAdd, Nat.reduceEqDiff, Nat.reduceLeDiff, true_and, List.length_map, len_row, one_row, A.enc_one, A.enc_len, pb_geta, pb_geta0, pb_seta, pb_seta0, pb_len, bs_size]
    refine hK _ _ fun env' hw => ?_
    simp only [setL_cons, setL_nil, List.set_cons_zero, List.set_cons_succ] at hw
    exact ⟨.inl rfl, _, rfl, _, _, rfl, by simp only [pb_len], fun j a h => pb_keep2 ho j a h, rfl, ⟨rfl, congrArg (pb σ o true) (by rw [ho1]; simp [brk])⟩⟩
open A (E VarM EqM NodeM ProgM) in
theorem operand_at {w : AV} {σ : Sto} {o : Nat} (ho : o + 3 < σ.length) {k p n : Int} {s : ByteArray} {nl : Bool} {l : List E} (hp : k = 4 → 0 ≤ p ∧ p ≤ 15) (ih : ExprOk w (.mk k p n s nl l)) (u : Bool) (t : List UInt8) (a : Int) (hf : t.length + (oper (.mk k p n s nl l) a (tx (.mk k p n s nl l))).length ≤ LIM) (r : Sto) :
    ACalls prog (GP w) 62 [.ref o 0, .agg [i64 k, i64 p, i64 n, str s, rowAV 5 nl (l.map E.enc)], i64 a] (pb σ o u t ++ r) (fun v σ' => v = .tup [] ∧ σ' = pb σ o true (t ++ oper (.mk k p n s nl l) a (tx (.mk k p n s nl l))) ++ r) := by
  have := at_app (fun σ ho => operand_calls ho k p n s nl l hp ih u t a hf) ho r
  rwa [E.enc_mk] at this
end Pr
end Go.Proofs.Tryd
/-! Printing: function 45. -/
namespace Go.Proofs.Tryd
set_option linter.unusedSimpArgs false
set_option linter.unusedVariables false
open Go Go.Proofs.Ev
namespace Pr
variable {Γ : List (Nat × List AV)}
set_option maxRecDepth 100000 in
set_option maxHeartbeats 1000000 in
open A (E VarM EqM NodeM ProgM) in
theorem unary_calls {w : AV} {σ : Sto} {o : Nat} (ho : o + 3 < σ.length) (p n : Int) (s : ByteArray) (nl : Bool) (k2 p2 n2 : Int) (s2 : ByteArray) (nl2 : Bool) (l2 : List E) (hp : k2 = 4 → 0 ≤ p2 ∧ p2 ≤ 15) (ih : ExprOk w (E.mk k2 p2 n2 s2 nl2 l2)) (u : Bool) (t : List UInt8) (hf : t.length + (tx (E.mk 3 p n s nl [(E.mk k2 p2 n2 s2 nl2 l2)])).length ≤ LIM) : ACalls prog (GP w) 45 [.ref o 0, E.enc (E.mk 3 p n s nl [(E.mk k2 p2 n2 s2 nl2 l2)])] (pb σ o u t) (fun v σ' => v = .tup [] ∧ σ' = pb σ o true (t ++ tx (E.mk 3 p n s nl [(E.mk k2 p2 n2 s2 nl2 l2)]))) := by
  refine ACalls.ofT func45 rfl ?_
  simp only [ntmps45, List.length_cons, List.length_nil, Nat.reduceAdd, Nat.reduceSub, List.replicate_succ, List.replicate_zero, List.cons_append, List.nil_append]
  rw [E.enc_mk]
  rw [show rowAV 5 nl ([(E.mk k2 p2 n2 s2 nl2 l2)].map E.enc) = .sl 5 [(.agg [.val (.int .i64 k2), .val (.int .i64 p2), .val (.int .i64 n2), .val (.string s2), rowAV 5 nl2 (l2.map E.enc)])] from by rw [List.map_cons, E.enc_mk]; rfl]
  have hq : tx (E.mk 3 p n s nl [(E.mk k2 p2 n2 s2 nl2 l2)]) = unPre p (E.mk k2 p2 n2 s2 nl2 l2) ++ oper (E.mk k2 p2 n2 s2 nl2 l2) 7 (tx (E.mk k2 p2 n2 s2 nl2 l2)) := by rw [tx_mk]; rfl
  rw [hq, List.length_append] at hf
  have hx : ([(.agg [.val (.int .i64 k2), .val (.int .i64 p2), .val (.int .i64 n2), .val (.string s2), rowAV 5 nl2 (l2.map E.enc)])] : List AV)[0]? = some (.agg [.val (.int .i64 k2), .val (.int .i64 p2), .val (.int .i64 n2), .val (.string s2), rowAV 5 nl2 (l2.map E.enc)]) := rfl
  refine AW.regl false [3] (by rfl) fun K1 hK1 => ?_ -- region 0
  simp only [go_sem, Nat.reduceAdd, Nat.reduceEqDiff, Nat.reduceLeDiff, true_and, List.length_map, len_row, one_row, A.enc_one, A.enc_len, pb_geta, pb_geta0, pb_seta, pb_seta0, pb_len, bs_size]
  refine hK1 _ _ ?_; try clear hK1 K1
  conv => enter [5]; simp only [setL_cons, setL_nil, List.set_cons_zero, List.set_cons_succ]
  refine AW.regl false [4] (by rfl) fun K2 hK2 => ?_ -- region 1
  simp only [go_sem, Nat.reduceAdd, Nat.reduceEqDiff, Nat.reduceLeDiff, true_and, List.length_map, len_row, one_row, A.enc_one, A.enc_len, pb_geta, pb_geta0, pb_seta, pb_seta0, pb_len, bs_size, at_sl0]
  refine hK2 _ _ ?_; try clear hK2 K2
  conv => enter [5]; simp only [setL_cons, setL_nil, List.set_cons_zero, List.set_cons_succ, upd_none, upd_at]
  refine AW.seq_k fun K3 hK3 => ?_
  refine AW.block ?_
  refine AW.regl false [12] (by rfl) fun K4 hK4 => ?_ -- region 3
  simp only [go_sem, Nat.reduceAdd, Nat.reduceEqDiff, Nat.reduceLeDiff, true_and, List.length_map, len_row, one_row, A.enc_one, A.enc_len, pb_geta, pb_geta0, pb_seta, pb_seta0, pb_len, bs_size]
  refine hK4 _ _ ?_; try clear hK4 K4
  conv => enter [5]; simp only [setL_cons, setL_nil, List.set_cons_zero, List.set_cons_succ]
  refine AW.cond rfl (fun hc12 => ?_) (fun hc12 => ?_)
  · skip
    have hu : unPre p (E.mk k2 p2 n2 s2 nl2 l2) = [110, 111, 116, 32] := by rw [unPre_mk, if_pos hc12]
    rw [hu] at hf
    simp only [List.length_cons, List.length_nil] at hf
    refine AW.lastl false [] (by rfl) fun K hK => ?_ -- region 4
    simp only [go_sem, Nat.reduceAdd, Nat.reduceEqDiff, Nat.reduceLeDiff, true_and, List.length_map, len_row, one_row, A.enc_one, A.enc_len, pb_geta, pb_geta0, pb_seta, pb_seta0, pb_len, bs_size]
    refine sC.ofR en34 (put_at ho u _ [[110, 111, 116, 32]] (by simp) (by simp) (by simp [bs_size]; omega) _) (fun v' σ' hR => ?_)
    obtain ⟨rfl, rfl⟩ := hR
    simp only [go_sem, Nat.reduceAdd, Nat.reduceEqDiff, Nat.reduceLeDiff, true_and, List.length_map, len_row, one_row, A.enc_one, A.enc_len, pb_geta, pb_geta0, pb_seta, pb_seta0, pb_len, bs_size]
    refine hK _ _ fun env' hw => ?_
    simp only [setL_cons, setL_nil, List.set_cons_zero, List.set_cons_succ] at hw
    refine hK3 _ _ (AW.weaken hw ?_); clear hw; try clear hK3 K3
    refine AW.lastl false [] (by rfl) fun K hK => ?_ -- region 9
    simp only [go_sem, Nat.reduceAdd, Nat.reduceEqDiff, Nat.reduceLeDiff, true_and, List.length_map, len_row, one_row, A.enc_one, A.enc_len, pb_geta, pb_geta0, pb_seta, pb_seta0, pb_len, bs_size]
    refine sC.ofR en62 (operand_at ho hp ih true _ 7 (by simp; omega) _) (fun v' σ' hR => ?_)
    obtain ⟨rfl, rfl⟩ := hR
    simp only [go_sem, Nat.reduceAdd, Nat.reduceEqDiff, Nat.reduceLeDiff, true_and, List.length_map, len_row, one_row, A.enc_one, A.enc_len, pb_geta, pb_geta0, pb_seta, pb_seta0, pb_len, bs_size]
    refine hK _ _ fun env' hw => ?_
    simp only [setL_cons, setL_nil, List.set_cons_zero, List.set_cons_succ] at hw
    exact ⟨.inl rfl, _, rfl, _, _, rfl, by simp only [pb_len], fun j a h => pb_keep2 ho j a h, rfl, ⟨rfl, congrArg (pb σ o true) (by rw [hq, hu]; simp)⟩⟩
  · skip
    refine AW.regl false [19] (by rfl) fun K5 hK5 => ?_ -- region 5
    simp only [go_sem, Nat.reduceAdd, Nat.reduceEqDiff, Nat.reduceLeDiff, true_and, List.length_map, len_row, one_row, A.enc_one, A.enc_len, pb_geta, pb_geta0, pb_seta, pb_seta0, pb_len, bs_size]
    refine hK5 _ _ ?_; try clear hK5 K5
    conv => enter [5]; simp only [setL_cons, setL_nil, List.set_cons_zero, List.set_cons_succ]
    refine AW.cond rfl (fun hc19 => ?_) (fun hc19 => ?_)
    · skip
      have hu : unPre p (E.mk k2 p2 n2 s2 nl2 l2) = [112, 114, 101, 32] := by rw [unPre_mk, if_neg (ne_true_of_eq_false hc12), if_pos hc19]
      rw [hu] at hf
      simp only [List.length_cons, List.length_nil] at hf
      refine AW.lastl false [] (by rfl) fun K hK => ?_ -- region 6
      simp only [go_sem, Nat.reduceAdd, Nat.reduceEqDiff, Nat.reduceLeDiff, true_and, List.length_map, len_row, one_row, A.enc_one, A.enc_len, pb_geta, pb_geta0, pb_seta, pb_seta0, pb_len, bs_size]
      refine sC.ofR en34 (put_at ho u _ [[112, 114, 101, 32]] (by simp) (by simp) (by simp [bs_size]; omega) _) (fun v' σ' hR => ?_)
      obtain ⟨rfl, rfl⟩ := hR
      simp only [go_sem, Nat.reduceAdd, Nat.reduceEqDiff, Nat.reduceLeDiff, true_and, List.length_map, len_row, one_row, A.enc_one, A.enc_len, pb_geta, pb_geta0, pb_seta, pb_seta0, pb_len, bs_size]
      refine hK _ _ fun env' hw => ?_
      simp only [setL_cons, setL_nil, List.set_cons_zero, List.set_cons_succ] at hw
      refine hK3 _ _ (AW.weaken hw ?_); clear hw; try clear hK3 K3
      refine AW.lastl false [] (by rfl) fun K hK => ?_ -- region 9
      simp only [go_sem, Nat.reduceAdd, Nat.reduceEqDiff, Nat.reduceLeDiff, true_and, List.length_map, len_row, one_row, A.enc_one, A.enc_len, pb_geta, pb_geta0, pb_seta, pb_seta0, pb_len, bs_size]
      refine sC.ofR en62 (operand_at ho hp ih true _ 7 (by simp; omega) _) (fun v' σ' hR => ?_)
      obtain ⟨rfl, rfl⟩ := hR
      simp only [go_sem, Nat.reduceAdd, Nat.reduceEqDiff, Nat.reduceLeDiff, true_and, List.length_map, len_row, one_row, A.enc_one, A.enc_len, pb_geta, pb_geta0, pb_seta, pb_seta0, pb_len, bs_size]
      refine hK _ _ fun env' hw => ?_
      simp only [setL_cons, setL_nil, List.set_cons_zero, List.set_cons_succ] at hw
      exact ⟨.inl rfl, _, rfl, _, _, rfl, by simp only [pb_len], fun j a h => pb_keep2 ho j a h, rfl, ⟨rfl, congrArg (pb σ o true) (by rw [hq, hu]; simp)⟩⟩
    · skip
      refine AW.regtf false 26 (.val (.bool ((k2 == 3) && (p2 == 0)))) (by rfl) ?_ ?_ -- region 7
      · skip
        cases h29 : ((k2 == 3))
        · skip
          simp only [go_sem, Nat.reduceAdd, Nat.reduceEqDiff, Nat.reduceLeDiff, true_and, List.length_map, len_row, one_row, A.enc_one, A.enc_len, pb_geta, pb_geta0, pb_seta, pb_seta0, pb_len, bs_size, h29]
          try simp [upd_at, h29, List.length_map, len_row, one_row, A.enc_one, A.enc_len, pb_geta, pb_geta0, pb_seta, pb_seta0, pb_len, bs_size]
        · skip
          simp only [go_sem, Nat.reduceAdd, Nat.reduceEqDiff, Nat.reduceLeDiff, true_and, List.length_map, len_row, one_row, A.enc_one, A.enc_len, pb_geta, pb_geta0, pb_seta, pb_seta0, pb_len, bs_size, h29]
          try simp [upd_at, h29, List.length_map, len_row, one_row, A.enc_one, A.enc_len, pb_geta, pb_geta0, pb_seta, pb_seta0, pb_len, bs_size]
      conv => enter [5]; simp only [List.set_cons_zero, List.set_cons_succ]
      refine AW.cond rfl (fun hc26 => ?_) (fun hc26 => ?_)
      · skip
        have hu : unPre p (E.mk k2 p2 n2 s2 nl2 l2) = [45, 32] := by rw [unPre_mk, if_neg (ne_true_of_eq_false hc12), if_neg (ne_true_of_eq_false hc19), if_pos hc26]
        rw [hu] at hf
        simp only [List.length_cons, List.length_nil] at hf
        refine AW.lastl false [] (by rfl) fun K hK => ?_ -- region 8
        simp only [go_sem, Nat.reduceAdd, Nat.reduceEqDiff, Nat.reduceLeDiff, true_and, List.length_map, len_row, one_row, A.enc_one, A.enc_len, pb_geta, pb_geta0, pb_seta, pb_seta0, pb_len, bs_size]
        refine sC.ofR en34 (put_at ho u _ [[45, 32]] (by simp) (by simp) (by simp [bs_size]; omega) _) (fun v' σ' hR => ?_)
        obtain ⟨rfl, rfl⟩ := hR
        simp only [go_sem, Nat.reduceAdd, Nat.reduceEqDiff, Nat.reduceLeDiff, true_and, List.length_map, len_row, one_row, A.enc_one, A.enc_len, pb_geta, pb_geta0, pb_seta, pb_seta0, pb_len, bs_size]
        refine hK _ _ fun env' hw => ?_
        simp only [setL_cons, setL_nil, List.set_cons_zero, List.set_cons_succ] at hw
        refine hK3 _ _ (AW.weaken hw ?_); clear hw; try clear hK3 K3
        refine AW.lastl false [] (by rfl) fun K hK => ?_ -- region 9
        simp only [go_sem, Nat.reduceAdd, Nat.reduceEqDiff, Nat.reduceLeDiff, true_and, List.length_map, len_row, one_row, A.enc_one, A.enc_len, pb_geta, pb_geta0, pb_seta, pb_seta0, pb_len, bs_size]
        refine sC.ofR en62 (operand_at ho hp ih true _ 7 (by simp; omega) _) (fun v' σ' hR => ?_)
        obtain ⟨rfl, rfl⟩ := hR
        simp only [go_sem, Nat.reduceAdd, Nat.reduceEqDiff, Nat.reduceLeDiff, true_and, List.length_map, len_row, one_row, A.enc_one, A.enc_len, pb_geta, pb_geta0, pb_seta, pb_seta0, pb_len, bs_size]
        refine hK _ _ fun env' hw => ?_
        simp only [setL_cons, setL_nil, List.set_cons_zero, List.set_cons_succ] at hw
        exact ⟨.inl rfl, _, rfl, _, _, rfl, by simp only [pb_len], fun j a h => pb_keep2 ho j a h, rfl, ⟨rfl, congrArg (pb σ o true) (by rw [hq, hu]; simp)⟩⟩
      · skip
        have hu : unPre p (E.mk k2 p2 n2 s2 nl2 l2) = [45] := by rw [unPre_mk, if_neg (ne_true_of_eq_false hc12), if_neg (ne_true_of_eq_false hc19), if_neg (ne_true_of_eq_false hc26)]
        rw [hu] at hf
        simp only [List.length_cons, List.length_nil] at hf
        refine AW.lastl false [] (by rfl) fun K hK => ?_ -- region 2
        simp only [go_sem, Nat.reduceAdd, Nat.reduceEqDiff, Nat.reduceLeDiff, true_and, List.length_map, len_row, one_row, A.enc_one, A.enc_len, pb_geta, pb_geta0, pb_seta, pb_seta0, pb_len, bs_size]
        refine sC.ofR en34 (put_at ho u _ [[45]] (by simp) (by simp) (by simp [bs_size]; omega) _) (fun v' σ' hR => ?_)
        obtain ⟨rfl, rfl⟩ := hR
        simp only [go_sem, Nat.reduceAdd, Nat.reduceEqDiff, Nat.reduceLeDiff, true_and, List.length_map, len_row, one_row, A.enc_one, A.enc_len, pb_geta, pb_geta0, pb_seta, pb_seta0, pb_len, bs_size]
        refine hK _ _ fun env' hw => ?_
        simp only [setL_cons, setL_nil, List.set_cons_zero, List.set_cons_succ] at hw
        refine hK3 _ _ (AW.weaken hw ?_); clear hw; try clear hK3 K3
        refine AW.lastl false [] (by rfl) fun K hK => ?_ -- region 9
        simp only [go_sem, Nat.reduceAdd, Nat.reduceEqDiff, Nat.reduceLeDiff, true_and, List.length_map, len_row, one_row, A.enc_one, A.enc_len, pb_geta, pb_geta0, pb_seta, pb_seta0, pb_len, bs_size]
        refine sC.ofR en62 (operand_at ho hp ih true _ 7 (by simp; omega) _) (fun v' σ' hR => ?_)
        obtain ⟨rfl, rfl⟩ := hR
        simp only [go_sem, Nat.reduceAdd, Nat.reduceEqDiff, Nat.reduceLeDiff, true_and, List.length_map, len_row, one_row, A.enc_one, A.enc_len, pb_geta, pb_geta0, pb_seta, pb_seta0, pb_len, bs_size]
        refine hK _ _ fun env' hw => ?_
        simp only [setL_cons, setL_nil, List.set_cons_zero, List.set_cons_succ] at hw
        exact ⟨.inl rfl, _, rfl, _, _, rfl, by simp only [pb_len], fun j a h => pb_keep2 ho j a h, rfl, ⟨rfl, congrArg (pb σ o true) (by rw [hq, hu]; simp)⟩⟩
open A (E VarM EqM NodeM ProgM) in
theorem unary_at {w : AV} {σ : Sto} {o : Nat} (ho : o + 3 < σ.length) {p n : Int} {s : ByteArray} {nl : Bool} {k2 p2 n2 : Int} {s2 : ByteArray} {nl2 : Bool} {l2 : List E} (hp : k2 = 4 → 0 ≤ p2 ∧ p2 ≤ 15) (ih : ExprOk w (E.mk k2 p2 n2 s2 nl2 l2)) (u : Bool) (t : List UInt8) (hf : t.length + (tx (E.mk 3 p n s nl [(E.mk k2 p2 n2 s2 nl2 l2)])).length ≤ LIM) (r : Sto) :
    ACalls prog (GP w) 45 [.ref o 0, .agg [i64 3, i64 p, i64 n, str s, rowAV 5 nl (([(E.mk k2 p2 n2 s2 nl2 l2)] : List E).map E.enc)]] (pb σ o u t ++ r) (fun v σ' => v = .tup [] ∧ σ' = pb σ o true (t ++ tx (E.mk 3 p n s nl [(E.mk k2 p2 n2 s2 nl2 l2)])) ++ r) := by
  have := at_app (fun σ ho => unary_calls ho p n s nl k2 p2 n2 s2 nl2 l2 hp ih u t hf) ho r
  rwa [E.enc_mk] at this
end Pr
end Go.Proofs.Tryd
/-! Printing: function 46. -/
namespace Go.Proofs.Tryd
set_option linter.unusedSimpArgs false
set_option linter.unusedVariables false
open Go Go.Proofs.Ev
namespace Pr
variable {Γ : List (Nat × List AV)}
set_option maxRecDepth 100000 in
set_option maxHeartbeats 1000000 in
open A (E VarM EqM NodeM ProgM) in
theorem binary_calls {w : AV} {σ : Sto} {o : Nat} (ho : o + 3 < σ.length) (p n : Int) (s : ByteArray) (nl : Bool) (k2 p2 n2 : Int) (s2 : ByteArray) (nl2 : Bool) (l2 : List E) (k3 p3 n3 : Int) (s3 : ByteArray) (nl3 : Bool) (l3 : List E) (h0p : 0 ≤ p) (h1p : p ≤ 15) (hp : k2 = 4 → 0 ≤ p2 ∧ p2 ≤ 15) (hp3 : k3 = 4 → 0 ≤ p3 ∧ p3 ≤ 15) (ih : ExprOk w (E.mk k2 p2 n2 s2 nl2 l2)) (ih3 : ExprOk w (E.mk k3 p3 n3 s3 nl3 l3)) (u : Bool) (t : List UInt8) (hf : t.length + (tx (E.mk 4 p n s nl [(E.mk k2 p2 n2 s2 nl2 l2), (E.mk k3 p3 n3 s3 nl3 l3)])).length ≤ LIM) : ACalls prog (GP w) 46 [.ref o 0, E.enc (E.mk 4 p n s nl [(E.mk k2 p2 n2 s2 nl2 l2), (E.mk k3 p3 n3 s3 nl3 l3)])] (pb σ o u t) (fun v σ' => v = .tup [] ∧ σ' = pb σ o true (t ++ tx (E.mk 4 p n s nl [(E.mk k2 p2 n2 s2 nl2 l2), (E.mk k3 p3 n3 s3 nl3 l3)]))) := by
  refine ACalls.ofT func46 rfl ?_
  simp only [ntmps46, List.length_cons, List.length_nil, Nat.reduceAdd, Nat.reduceSub, List.replicate_succ, List.replicate_zero, List.cons_append, List.nil_append]
  rw [E.enc_mk]
  rw [show rowAV 5 nl ([(E.mk k2 p2 n2 s2 nl2 l2), (E.mk k3 p3 n3 s3 nl3 l3)].map E.enc) = .sl 5 [(.agg [.val (.int .i64 k2), .val (.int .i64 p2), .val (.int .i64 n2), .val (.string s2), rowAV 5 nl2 (l2.map E.enc)]), (.agg [.val (.int .i64 k3), .val (.int .i64 p3), .val (.int .i64 n3), .val (.string s3), rowAV 5 nl3 (l3.map E.enc)])] from by rw [List.map_cons, List.map_cons, E.enc_mk, E.enc_mk]; rfl]
  have hq : tx (E.mk 4 p n s nl [(E.mk k2 p2 n2 s2 nl2 l2), (E.mk k3 p3 n3 s3 nl3 l3)]) = oper (E.mk k2 p2 n2 s2 nl2 l2) (leftA p) (tx (E.mk k2 p2 n2 s2 nl2 l2)) ++ ([32] ++ (opT p ++ [32]) ++ oper (E.mk k3 p3 n3 s3 nl3 l3) (rightA p) (tx (E.mk k3 p3 n3 s3 nl3 l3))) := by rw [tx_mk]; rfl
  rw [hq] at hf
  simp only [List.length_append, List.length_cons, List.length_nil] at hf
  have hw := opL_wrap p
  refine AW.regl false [3] (by rfl) fun K1 hK1 => ?_ -- region 0
  simp only [go_sem, Nat.reduceAdd, Nat.reduceEqDiff, Nat.reduceLeDiff, true_and, List.length_map, len_row, one_row, A.enc_one, A.enc_len, pb_geta, pb_geta0, pb_seta, pb_seta0, pb_len, bs_size]
  refine hK1 _ _ ?_; try clear hK1 K1
  conv => enter [5]; simp only [setL_cons, setL_nil, List.set_cons_zero, List.set_cons_succ]
  refine AW.regl false [4] (by rfl) fun K2 hK2 => ?_ -- region 1
  simp only [go_sem, Nat.reduceAdd, Nat.reduceEqDiff, Nat.reduceLeDiff, true_and, List.length_map, len_row, one_row, A.enc_one, A.enc_len, pb_geta, pb_geta0, pb_seta, pb_seta0, pb_len, bs_size, opndF_global, opnd_g0, bin_at h0p h1p]
  refine hK2 _ _ ?_; try clear hK2 K2
  conv => enter [5]; simp only [setL_cons, setL_nil, List.set_cons_zero, List.set_cons_succ, upd_none, upd_at]
  refine AW.regdl mixed false [5, 6] (by kernel_rfl) (by rfl) fun K3 hK3 => ?_ -- region 2
  simp only [go_sem, Nat.reduceAdd, Nat.reduceEqDiff, Nat.reduceLeDiff, true_and, List.length_map, len_row, one_row, A.enc_one, A.enc_len, pb_geta, pb_geta0, pb_seta, pb_seta0, pb_len, bs_size, hw]
  refine hK3 _ ?_; try clear hK3 K3
  conv => enter [5]; simp only [setL_cons, setL_nil, List.set_cons_zero, List.set_cons_succ]
  refine AW.seq_k fun K4 hK4 => ?_
  refine AW.regl false [18] (by rfl) fun K5 hK5 => ?_ -- region 3
  simp only [go_sem, Nat.reduceAdd, Nat.reduceEqDiff, Nat.reduceLeDiff, true_and, List.length_map, len_row, one_row, A.enc_one, A.enc_len, pb_geta, pb_geta0, pb_seta, pb_seta0, pb_len, bs_size]
  refine hK5 _ _ ?_; try clear hK5 K5
  conv => enter [5]; simp only [setL_cons, setL_nil, List.set_cons_zero, List.set_cons_succ]
  refine AW.block ?_
  refine AW.seq_k fun K6 hK6 => ?_
  refine AW.regl false [19] (by rfl) fun K7 hK7 => ?_ -- region 4
  simp only [go_sem, Nat.reduceAdd, Nat.reduceEqDiff, Nat.reduceLeDiff, true_and, List.length_map, len_row, one_row, A.enc_one, A.enc_len, pb_geta, pb_geta0, pb_seta, pb_seta0, pb_len, bs_size]
  refine hK7 _ _ ?_; try clear hK7 K7
  conv => enter [5]; simp only [setL_cons, setL_nil, List.set_cons_zero, List.set_cons_succ]
  refine AW.cond rfl (fun hc19 => ?_) (fun hc19 => ?_)
  · skip
    have h0 : (opL p == 0) = true := hc19
    refine AW.skip ?_
    refine hK6 _ _ ?_; try clear hK6 K6
    refine AW.cond rfl (fun hc19 => ?_) (fun hc19 => ?_)
    · skip
      have hA : leftA p = opL p + 1 := by simp [leftA, h0]
      have hB : rightA p = opL p := by simp [rightA, h0]
      rw [hA, hB] at hf
      refine AW.lastl false [5, 6] (by rfl) fun K hK => ?_ -- region 6
      simp only [go_sem, Nat.reduceAdd, Nat.reduceEqDiff, Nat.reduceLeDiff, true_and, List.length_map, len_row, one_row, A.enc_one, A.enc_len, pb_geta, pb_geta0, pb_seta, pb_seta0, pb_len, bs_size]
      refine hK _ _ fun env' hw => ?_
      simp only [setL_cons, setL_nil, List.set_cons_zero, List.set_cons_succ] at hw
      refine hK4 _ _ (AW.weaken hw ?_); clear hw; try clear hK4 K4
      refine AW.regl false [] (by rfl) fun K8 hK8 => ?_ -- region 9
      simp only [go_sem, Nat.reduceAdd, Nat.reduceEqDiff, Nat.reduceLeDiff, true_and, List.length_map, len_row, one_row, A.enc_one, A.enc_len, pb_geta, pb_geta0, pb_seta, pb_seta0, pb_len, bs_size, at_sl0]
      refine sC.ofR en62 (operand_at ho hp ih u t _ (by omega) _) (fun v' σ' hR => ?_)
      obtain ⟨rfl, rfl⟩ := hR
      simp only [go_sem, Nat.reduceAdd, Nat.reduceEqDiff, Nat.reduceLeDiff, true_and, List.length_map, len_row, one_row, A.enc_one, A.enc_len, pb_geta, pb_geta0, pb_seta, pb_seta0, pb_len, bs_size, at_sl0]
      refine hK8 _ _ ?_; try clear hK8 K8
      conv => enter [5]; simp only [setL_cons, setL_nil, List.set_cons_zero, List.set_cons_succ]
      refine AW.regl false [] (by rfl) fun K9 hK9 => ?_ -- region 10
      simp only [go_sem, Nat.reduceAdd, Nat.reduceEqDiff, Nat.reduceLeDiff, true_and, List.length_map, len_row, one_row, A.enc_one, A.enc_len, pb_geta, pb_geta0, pb_seta, pb_seta0, pb_len, bs_size]
      refine sC.ofR en34 (put_at ho true _ [[32], opT p, [32]] (by simp) (by simp) (by simp [bs_size]; omega) _) (fun v' σ' hR => ?_)
      obtain ⟨rfl, rfl⟩ := hR
      simp only [go_sem, Nat.reduceAdd, Nat.reduceEqDiff, Nat.reduceLeDiff, true_and, List.length_map, len_row, one_row, A.enc_one, A.enc_len, pb_geta, pb_geta0, pb_seta, pb_seta0, pb_len, bs_size]
      refine hK9 _ _ ?_; try clear hK9 K9
      conv => enter [5]; simp only [setL_cons, setL_nil, List.set_cons_zero, List.set_cons_succ]
      refine AW.lastl false [] (by rfl) fun K hK => ?_ -- region 11
      simp only [go_sem, Nat.reduceAdd, Nat.reduceEqDiff, Nat.reduceLeDiff, true_and, List.length_map, len_row, one_row, A.enc_one, A.enc_len, pb_geta, pb_geta0, pb_seta, pb_seta0, pb_len, bs_size, at_sl1]
      refine sC.ofR en62 (operand_at ho hp3 ih3 true _ _ (by simp; omega) _) (fun v' σ' hR => ?_)
      obtain ⟨rfl, rfl⟩ := hR
      simp only [go_sem, Nat.reduceAdd, Nat.reduceEqDiff, Nat.reduceLeDiff, true_and, List.length_map, len_row, one_row, A.enc_one, A.enc_len, pb_geta, pb_geta0, pb_seta, pb_seta0, pb_len, bs_size, at_sl1]
      refine hK _ _ fun env' hw => ?_
      simp only [setL_cons, setL_nil, List.set_cons_zero, List.set_cons_succ] at hw
      exact ⟨.inl rfl, _, rfl, _, _, rfl, by simp only [pb_len], fun j a h => pb_keep2 ho j a h, rfl, ⟨rfl, congrArg (pb σ o true) (by rw [hq, hA, hB]; simp)⟩⟩
    · skip
      exact absurd (h0.symm.trans hc19) (by decide)
  · skip
    have h0 : (opL p == 0) = false := hc19
    refine AW.lastl false [19] (by rfl) fun K hK => ?_ -- region 5
    simp only [go_sem, Nat.reduceAdd, Nat.reduceEqDiff, Nat.reduceLeDiff, true_and, List.length_map, len_row, one_row, A.enc_one, A.enc_len, pb_geta, pb_geta0, pb_seta, pb_seta0, pb_len, bs_size]
    refine hK _ _ fun env' hw => ?_
    simp only [setL_cons, setL_nil, List.set_cons_zero, List.set_cons_succ] at hw
    refine hK6 _ _ (AW.weaken hw ?_); clear hw; try clear hK6 K6
    refine AW.cond rfl (fun hc19 => ?_) (fun hc19 => ?_)
    · skip
      have h1 : (opL p == 1) = true := hc19
      have hA : leftA p = opL p + 1 := by simp [leftA, h1]
      have hB : rightA p = opL p := by simp [rightA, h1]
      rw [hA, hB] at hf
      refine AW.lastl false [5, 6] (by rfl) fun K hK => ?_ -- region 6
      simp only [go_sem, Nat.reduceAdd, Nat.reduceEqDiff, Nat.reduceLeDiff, true_and, List.length_map, len_row, one_row, A.enc_one, A.enc_len, pb_geta, pb_geta0, pb_seta, pb_seta0, pb_len, bs_size]
      refine hK _ _ fun env' hw => ?_
      simp only [setL_cons, setL_nil, List.set_cons_zero, List.set_cons_succ] at hw
      refine hK4 _ _ (AW.weaken hw ?_); clear hw; try clear hK4 K4
      refine AW.regl false [] (by rfl) fun K10 hK10 => ?_ -- region 9
      simp only [go_sem, Nat.reduceAdd, Nat.reduceEqDiff, Nat.reduceLeDiff, true_and, List.length_map, len_row, one_row, A.enc_one, A.enc_len, pb_geta, pb_geta0, pb_seta, pb_seta0, pb_len, bs_size, at_sl0]
      refine sC.ofR en62 (operand_at ho hp ih u t _ (by omega) _) (fun v' σ' hR => ?_)
      obtain ⟨rfl, rfl⟩ := hR
      simp only [go_sem, Nat.reduceAdd, Nat.reduceEqDiff, Nat.reduceLeDiff, true_and, List.length_map, len_row, one_row, A.enc_one, A.enc_len, pb_geta, pb_geta0, pb_seta, pb_seta0, pb_len, bs_size, at_sl0]
      refine hK10 _ _ ?_; try clear hK10 K10
      conv => enter [5]; simp only [setL_cons, setL_nil, List.set_cons_zero, List.set_cons_succ]
      refine AW.regl false [] (by rfl) fun K11 hK11 => ?_ -- region 10
      simp only [go_sem, Nat.reduceAdd, Nat.reduceEqDiff, Nat.reduceLeDiff, true_and, List.length_map, len_row, one_row, A.enc_one, A.enc_len, pb_geta, pb_geta0, pb_seta, pb_seta0, pb_len, bs_size]
      refine sC.ofR en34 (put_at ho true _ [[32], opT p, [32]] (by simp) (by simp) (by simp [bs_size]; omega) _) (fun v' σ' hR => ?_)
      obtain ⟨rfl, rfl⟩ := hR
      simp only [go_sem, Nat.reduceAdd, Nat.reduceEqDiff, Nat.reduceLeDiff, true_and, List.length_map, len_row, one_row, A.enc_one, A.enc_len, pb_geta, pb_geta0, pb_seta, pb_seta0, pb_len, bs_size]
      refine hK11 _ _ ?_; try clear hK11 K11
      conv => enter [5]; simp only [setL_cons, setL_nil, List.set_cons_zero, List.set_cons_succ]
      refine AW.lastl false [] (by rfl) fun K hK => ?_ -- region 11
      simp only [go_sem, Nat.reduceAdd, Nat.reduceEqDiff, Nat.reduceLeDiff, true_and, List.length_map, len_row, one_row, A.enc_one, A.enc_len, pb_geta, pb_geta0, pb_seta, pb_seta0, pb_len, bs_size, at_sl1]
      refine sC.ofR en62 (operand_at ho hp3 ih3 true _ _ (by simp; omega) _) (fun v' σ' hR => ?_)
      obtain ⟨rfl, rfl⟩ := hR
      simp only [go_sem, Nat.reduceAdd, Nat.reduceEqDiff, Nat.reduceLeDiff, true_and, List.length_map, len_row, one_row, A.enc_one, A.enc_len, pb_geta, pb_geta0, pb_seta, pb_seta0, pb_len, bs_size, at_sl1]
      refine hK _ _ fun env' hw => ?_
      simp only [setL_cons, setL_nil, List.set_cons_zero, List.set_cons_succ] at hw
      exact ⟨.inl rfl, _, rfl, _, _, rfl, by simp only [pb_len], fun j a h => pb_keep2 ho j a h, rfl, ⟨rfl, congrArg (pb σ o true) (by rw [hq, hA, hB]; simp)⟩⟩
    · skip
      have h1 : (opL p == 1) = false := hc19
      refine AW.regl false [24] (by rfl) fun K12 hK12 => ?_ -- region 7
      simp only [go_sem, Nat.reduceAdd, Nat.reduceEqDiff, Nat.reduceLeDiff, true_and, List.length_map, len_row, one_row, A.enc_one, A.enc_len, pb_geta, pb_geta0, pb_seta, pb_seta0, pb_len, bs_size]
      refine hK12 _ _ ?_; try clear hK12 K12
      conv => enter [5]; simp only [setL_cons, setL_nil, List.set_cons_zero, List.set_cons_succ]
      refine AW.cond rfl (fun hc24 => ?_) (fun hc24 => ?_)
      · skip
        have h4 : (opL p == 4) = true := hc24
        have hA : leftA p = opL p + 1 := by simp [leftA, h4]
        have hB : rightA p = opL p + 1 := by simp [rightA, h0, h1]
        rw [hA, hB] at hf
        refine AW.lastl false [5] (by rfl) fun K hK => ?_ -- region 8
        simp only [go_sem, Nat.reduceAdd, Nat.reduceEqDiff, Nat.reduceLeDiff, true_and, List.length_map, len_row, one_row, A.enc_one, A.enc_len, pb_geta, pb_geta0, pb_seta, pb_seta0, pb_len, bs_size]
        refine hK _ _ fun env' hw => ?_
        simp only [setL_cons, setL_nil, List.set_cons_zero, List.set_cons_succ] at hw
        refine hK4 _ _ (AW.weaken hw ?_); clear hw; try clear hK4 K4
        refine AW.regl false [] (by rfl) fun K13 hK13 => ?_ -- region 9
        simp only [go_sem, Nat.reduceAdd, Nat.reduceEqDiff, Nat.reduceLeDiff, true_and, List.length_map, len_row, one_row, A.enc_one, A.enc_len, pb_geta, pb_geta0, pb_seta, pb_seta0, pb_len, bs_size, at_sl0]
        refine sC.ofR en62 (operand_at ho hp ih u t _ (by omega) _) (fun v' σ' hR => ?_)
        obtain ⟨rfl, rfl⟩ := hR
        simp only [go_sem, Nat.reduceAdd, Nat.reduceEqDiff, Nat.reduceLeDiff, true_and, List.length_map, len_row, one_row, A.enc_one, A.enc_len, pb_geta, pb_geta0, pb_seta, pb_seta0, pb_len, bs_size, at_sl0]
        refine hK13 _ _ ?_; try clear hK13 K13
        conv => enter [5]; simp only [setL_cons, setL_nil, List.set_cons_zero, List.set_cons_succ]
        refine AW.regl false [] (by rfl) fun K14 hK14 => ?_ -- region 10
        simp only [go_sem, Nat.reduceAdd, Nat.reduceEqDiff, Nat.reduceLeDiff, true_and, List.length_map, len_row, one_row, A.enc_one, A.enc_len, pb_geta, pb_geta0, pb_seta, pb_seta0, pb_len, bs_size]
        refine sC.ofR en34 (put_at ho true _ [[32], opT p, [32]] (by simp) (by simp) (by simp [bs_size]; omega) _) (fun v' σ' hR => ?_)
        obtain ⟨rfl, rfl⟩ := hR
        simp only [go_sem, Nat.reduceAdd, Nat.reduceEqDiff, Nat.reduceLeDiff, true_and, List.length_map, len_row, one_row, A.enc_one, A.enc_len, pb_geta, pb_geta0, pb_seta, pb_seta0, pb_len, bs_size]
        refine hK14 _ _ ?_; try clear hK14 K14
        conv => enter [5]; simp only [setL_cons, setL_nil, List.set_cons_zero, List.set_cons_succ]
        refine AW.lastl false [] (by rfl) fun K hK => ?_ -- region 11
        simp only [go_sem, Nat.reduceAdd, Nat.reduceEqDiff, Nat.reduceLeDiff, true_and, List.length_map, len_row, one_row, A.enc_one, A.enc_len, pb_geta, pb_geta0, pb_seta, pb_seta0, pb_len, bs_size, at_sl1]
        refine sC.ofR en62 (operand_at ho hp3 ih3 true _ _ (by simp; omega) _) (fun v' σ' hR => ?_)
        obtain ⟨rfl, rfl⟩ := hR
        simp only [go_sem, Nat.reduceAdd, Nat.reduceEqDiff, Nat.reduceLeDiff, true_and, List.length_map, len_row, one_row, A.enc_one, A.enc_len, pb_geta, pb_geta0, pb_seta, pb_seta0, pb_len, bs_size, at_sl1]
        refine hK _ _ fun env' hw => ?_
        simp only [setL_cons, setL_nil, List.set_cons_zero, List.set_cons_succ] at hw
        exact ⟨.inl rfl, _, rfl, _, _, rfl, by simp only [pb_len], fun j a h => pb_keep2 ho j a h, rfl, ⟨rfl, congrArg (pb σ o true) (by rw [hq, hA, hB]; simp)⟩⟩
      · skip
        have h4 : (opL p == 4) = false := hc24
        have hA : leftA p = opL p := by simp [leftA, h0, h1, h4]
        have hB : rightA p = opL p + 1 := by simp [rightA, h0, h1]
        rw [hA, hB] at hf
        refine AW.skip ?_
        refine hK4 _ _ ?_; try clear hK4 K4
        refine AW.regl false [] (by rfl) fun K15 hK15 => ?_ -- region 9
        simp only [go_sem, Nat.reduceAdd, Nat.reduceEqDiff, Nat.reduceLeDiff, true_and, List.length_map, len_row, one_row, A.enc_one, A.enc_len, pb_geta, pb_geta0, pb_seta, pb_seta0, pb_len, bs_size, at_sl0]
        refine sC.ofR en62 (operand_at ho hp ih u t _ (by omega) _) (fun v' σ' hR => ?_)
        obtain ⟨rfl, rfl⟩ := hR
        simp only [go_sem, Nat.reduceAdd, Nat.reduceEqDiff, Nat.reduceLeDiff, true_and, List.length_map, len_row, one_row, A.enc_one, A.enc_len, pb_geta, pb_geta0, pb_seta, pb_seta0, pb_len, bs_size, at_sl0]
        refine hK15 _ _ ?_; try clear hK15 K15
        conv => enter [5]; simp only [setL_cons, setL_nil, List.set_cons_zero, List.set_cons_succ]
        refine AW.regl false [] (by rfl) fun K16 hK16 => ?_ -- region 10
        simp only [go_sem, Nat.reduceAdd, Nat.reduceEqDiff, Nat.reduceLeDiff, true_and, List.length_map, len_row, one_row, A.enc_one, A.enc_len, pb_geta, pb_geta0, pb_seta, pb_seta0, pb_len, bs_size]
        refine sC.ofR en34 (put_at ho true _ [[32], opT p, [32]] (by simp) (by simp) (by simp [bs_size]; omega) _) (fun v' σ' hR => ?_)
        obtain ⟨rfl, rfl⟩ := hR
        simp only [go_sem, Nat.reduceAdd, Nat.reduceEqDiff, Nat.reduceLeDiff, true_and, List.length_map, len_row, one_row, A.enc_one, A.enc_len, pb_geta, pb_geta0, pb_seta, pb_seta0, pb_len, bs_size]
        refine hK16 _ _ ?_; try clear hK16 K16
        conv => enter [5]; simp only [setL_cons, setL_nil, List.set_cons_zero, List.set_cons_succ]
        refine AW.lastl false [] (by rfl) fun K hK => ?_ -- region 11
        simp only [go_sem, Nat.reduceAdd, Nat.reduceEqDiff, Nat.reduceLeDiff, true_and, List.length_map, len_row, one_row, A.enc_one, A.enc_len, pb_geta, pb_geta0, pb_seta, pb_seta0, pb_len, bs_size, at_sl1]
        refine sC.ofR en62 (operand_at ho hp3 ih3 true _ _ (by simp; omega) _) (fun v' σ' hR => ?_)
        obtain ⟨rfl, rfl⟩ := hR
        simp only [go_sem, Nat.reduceAdd, Nat.reduceEqDiff, Nat.reduceLeDiff, true_and, List.length_map, len_row, one_row, A.enc_one, A.enc_len, pb_geta, pb_geta0, pb_seta, pb_seta0, pb_len, bs_size, at_sl1]
        refine hK _ _ fun env' hw => ?_
        simp only [setL_cons, setL_nil, List.set_cons_zero, List.set_cons_succ] at hw
        exact ⟨.inl rfl, _, rfl, _, _, rfl, by simp only [pb_len], fun j a h => pb_keep2 ho j a h, rfl, ⟨rfl, congrArg (pb σ o true) (by rw [hq, hA, hB]; simp)⟩⟩
open A (E VarM EqM NodeM ProgM) in
theorem binary_at {w : AV} {σ : Sto} {o : Nat} (ho : o + 3 < σ.length) {p n : Int} {s : ByteArray} {nl : Bool} {k2 p2 n2 : Int} {s2 : ByteArray} {nl2 : Bool} {l2 : List E} {k3 p3 n3 : Int} {s3 : ByteArray} {nl3 : Bool} {l3 : List E} (h0p : 0 ≤ p) (h1p : p ≤ 15) (hp : k2 = 4 → 0 ≤ p2 ∧ p2 ≤ 15) (hp3 : k3 = 4 → 0 ≤ p3 ∧ p3 ≤ 15) (ih : ExprOk w (E.mk k2 p2 n2 s2 nl2 l2)) (ih3 : ExprOk w (E.mk k3 p3 n3 s3 nl3 l3)) (u : Bool) (t : List UInt8) (hf : t.length + (tx (E.mk 4 p n s nl [(E.mk k2 p2 n2 s2 nl2 l2), (E.mk k3 p3 n3 s3 nl3 l3)])).length ≤ LIM) (r : Sto) :
    ACalls prog (GP w) 46 [.ref o 0, .agg [i64 4, i64 p, i64 n, str s, rowAV 5 nl (([(E.mk k2 p2 n2 s2 nl2 l2), (E.mk k3 p3 n3 s3 nl3 l3)] : List E).map E.enc)]] (pb σ o u t ++ r) (fun v σ' => v = .tup [] ∧ σ' = pb σ o true (t ++ tx (E.mk 4 p n s nl [(E.mk k2 p2 n2 s2 nl2 l2), (E.mk k3 p3 n3 s3 nl3 l3)])) ++ r) := by
  have := at_app (fun σ ho => binary_calls ho p n s nl k2 p2 n2 s2 nl2 l2 k3 p3 n3 s3 nl3 l3 h0p h1p hp hp3 ih ih3 u t hf) ho r
  rwa [E.enc_mk] at this
end Pr
end Go.Proofs.Tryd
/-! Printing: function 29. -/
namespace Go.Proofs.Tryd
set_option linter.unusedSimpArgs false
set_option linter.unusedVariables false
open Go Go.Proofs.Ev
namespace Pr
variable {Γ : List (Nat × List AV)}
set_option maxRecDepth 100000 in
set_option maxHeartbeats 2000000 in
open A (E VarM EqM NodeM ProgM) in
theorem expr_step {w : AV} (k p n : Int) (s : ByteArray) (nl : Bool) (l : List E) (h1 : A.single k p n s l.length = true) (hr : rng (.mk k p n s nl l)) (hk : ∀ e ∈ l, ∃ k2 p2 n2 s2 nl2 l2, e = E.mk k2 p2 n2 s2 nl2 l2 ∧ (k2 = 4 → 0 ≤ p2 ∧ p2 ≤ 15)) (ih : ∀ e ∈ l, ExprOk w e) {σ : Sto} {o : Nat} (ho : o + 3 < σ.length) (u : Bool) (t : List UInt8) (hf : t.length + (tx (.mk k p n s nl l)).length ≤ LIM) : ACalls prog (GP w) 29 [.ref o 0, E.enc (.mk k p n s nl l)] (pb σ o u t) (fun v σ' => v = .tup [] ∧ σ' = pb σ o true (t ++ tx (.mk k p n s nl l))) := by
  refine ACalls.ofT func29 rfl ?_
  simp only [ntmps29, List.length_cons, List.length_nil, Nat.reduceAdd, Nat.reduceSub, List.replicate_succ, List.replicate_zero, List.cons_append, List.nil_append]
  rw [E.enc_mk]
  have hl : l.length ≤ maxLen := by
    rw [maxLen_eq]
    have h2 := h1
    unfold A.single at h2
    repeat' split at h2
    all_goals (simp at h2 <;> first | omega | (rw [h2.2]; simp))
  unfold A.single at h1
  refine AW.regl false [3] (by rfl) fun K1 hK1 => ?_ -- region 0
  simp only [go_sem, Nat.reduceAdd, Nat.reduceEqDiff, Nat.reduceLeDiff, true_and, List.length_map, len_row, one_row, A.enc_one, A.enc_len, pb_geta, pb_geta0, pb_seta, pb_seta0, pb_len, bs_size]
  refine hK1 _ _ ?_; try clear hK1 K1
  conv => enter [5]; simp only [setL_cons, setL_nil, List.set_cons_zero, List.set_cons_succ]
  refine AW.regl false [9] (by rfl) fun K2 hK2 => ?_ -- region 1
  simp only [go_sem, Nat.reduceAdd, Nat.reduceEqDiff, Nat.reduceLeDiff, true_and, List.length_map, len_row, one_row, A.enc_one, A.enc_len, pb_geta, pb_geta0, pb_seta, pb_seta0, pb_len, bs_size]
  refine hK2 _ _ ?_; try clear hK2 K2
  conv => enter [5]; simp only [setL_cons, setL_nil, List.set_cons_zero, List.set_cons_succ]
  refine AW.block ?_
  refine AW.regl false [10] (by rfl) fun K3 hK3 => ?_ -- region 2
  simp only [go_sem, Nat.reduceAdd, Nat.reduceEqDiff, Nat.reduceLeDiff, true_and, List.length_map, len_row, one_row, A.enc_one, A.enc_len, pb_geta, pb_geta0, pb_seta, pb_seta0, pb_len, bs_size]
  refine hK3 _ _ ?_; try clear hK3 K3
  conv => enter [5]; simp only [setL_cons, setL_nil, List.set_cons_zero, List.set_cons_succ]
  refine AW.cond rfl (fun hc10 => ?_) (fun hc10 => ?_)
  · skip
    have hq : tx (.mk k p n s nl l) = Lib.itoa n := by rw [tx_mk]; unfold txt; rw [if_pos hc10]
    rw [hq] at hf
    refine AW.lastl false [] (by rfl) fun K hK => ?_ -- region 3
    simp only [go_sem, Nat.reduceAdd, Nat.reduceEqDiff, Nat.reduceLeDiff, true_and, List.length_map, len_row, one_row, A.enc_one, A.enc_len, pb_geta, pb_geta0, pb_seta, pb_seta0, pb_len, bs_size]
    refine sC.of en43 ((fmtInt_calls tabG n hr.1 hr.2).on _).here (by rfl) ?_
    simp only [go_sem, Nat.reduceAdd, Nat.reduceEqDiff, Nat.reduceLeDiff, true_and, List.length_map, len_row, one_row, A.enc_one, A.enc_len, pb_geta, pb_geta0, pb_seta, pb_seta0, pb_len, bs_size]
    refine sC.ofR en34 (put_at ho u _ [Lib.itoa n] (by simp) (by simp) (by simp [bs_size]; omega) _) (fun v' σ' hR => ?_)
    obtain ⟨rfl, rfl⟩ := hR
    simp only [go_sem, Nat.reduceAdd, Nat.reduceEqDiff, Nat.reduceLeDiff, true_and, List.length_map, len_row, one_row, A.enc_one, A.enc_len, pb_geta, pb_geta0, pb_seta, pb_seta0, pb_len, bs_size]
    refine hK _ _ fun env' hw => ?_
    simp only [setL_cons, setL_nil, List.set_cons_zero, List.set_cons_succ] at hw
    exact ⟨.inl rfl, _, rfl, _, _, rfl, by simp only [pb_len], fun j a h => pb_keep2 ho j a h, rfl, ⟨rfl, congrArg (pb σ o true) (by first | rfl | (rw [hq]; done) | (rw [hq]; simp))⟩⟩
  · skip
    refine AW.regl false [18] (by rfl) fun K4 hK4 => ?_ -- region 4
    simp only [go_sem, Nat.reduceAdd, Nat.reduceEqDiff, Nat.reduceLeDiff, true_and, List.length_map, len_row, one_row, A.enc_one, A.enc_len, pb_geta, pb_geta0, pb_seta, pb_seta0, pb_len, bs_size]
    refine hK4 _ _ ?_; try clear hK4 K4
    conv => enter [5]; simp only [setL_cons, setL_nil, List.set_cons_zero, List.set_cons_succ]
    refine AW.cond rfl (fun hc18 => ?_) (fun hc18 => ?_)
    · skip
      have hq : tx (.mk k p n s nl l) = truthT (n == 1) := by rw [tx_mk]; unfold txt; rw [if_neg (ne_true_of_eq_false hc10), if_pos hc18]
      rw [hq] at hf
      refine AW.lastl false [] (by rfl) fun K hK => ?_ -- region 5
      simp only [go_sem, Nat.reduceAdd, Nat.reduceEqDiff, Nat.reduceLeDiff, true_and, List.length_map, len_row, one_row, A.enc_one, A.enc_len, pb_geta, pb_geta0, pb_seta, pb_seta0, pb_len, bs_size]
      refine sC.of en44 ((fmtBool_calls (n == 1)).on _).here (by rfl) ?_
      simp only [go_sem, Nat.reduceAdd, Nat.reduceEqDiff, Nat.reduceLeDiff, true_and, List.length_map, len_row, one_row, A.enc_one, A.enc_len, pb_geta, pb_geta0, pb_seta, pb_seta0, pb_len, bs_size]
      refine sC.ofR en34 (put_at ho u _ [truthT (n == 1)] (by simp) (by simp) (by simp [bs_size]; omega) _) (fun v' σ' hR => ?_)
      obtain ⟨rfl, rfl⟩ := hR
      simp only [go_sem, Nat.reduceAdd, Nat.reduceEqDiff, Nat.reduceLeDiff, true_and, List.length_map, len_row, one_row, A.enc_one, A.enc_len, pb_geta, pb_geta0, pb_seta, pb_seta0, pb_len, bs_size]
      refine hK _ _ fun env' hw => ?_
      simp only [setL_cons, setL_nil, List.set_cons_zero, List.set_cons_succ] at hw
      exact ⟨.inl rfl, _, rfl, _, _, rfl, by simp only [pb_len], fun j a h => pb_keep2 ho j a h, rfl, ⟨rfl, congrArg (pb σ o true) (by first | rfl | (rw [hq]; done) | (rw [hq]; simp))⟩⟩
    · skip
      refine AW.regl false [27] (by rfl) fun K5 hK5 => ?_ -- region 6
      simp only [go_sem, Nat.reduceAdd, Nat.reduceEqDiff, Nat.reduceLeDiff, true_and, List.length_map, len_row, one_row, A.enc_one, A.enc_len, pb_geta, pb_geta0, pb_seta, pb_seta0, pb_len, bs_size]
      refine hK5 _ _ ?_; try clear hK5 K5
      conv => enter [5]; simp only [setL_cons, setL_nil, List.set_cons_zero, List.set_cons_succ]
      refine AW.cond rfl (fun hc27 => ?_) (fun hc27 => ?_)
      · skip
        have hq : tx (.mk k p n s nl l) = s.data.toList := by rw [tx_mk]; unfold txt; rw [if_neg (ne_true_of_eq_false hc10), if_neg (ne_true_of_eq_false hc18), if_pos hc27]
        rw [hq] at hf
        refine AW.lastl false [] (by rfl) fun K hK => ?_ -- region 7
        simp only [go_sem, Nat.reduceAdd, Nat.reduceEqDiff, Nat.reduceLeDiff, true_and, List.length_map, len_row, one_row, A.enc_one, A.enc_len, pb_geta, pb_geta0, pb_seta, pb_seta0, pb_len, bs_size]
        refine sC.ofR en34 (put_at ho u _ [s.data.toList] (by simp) (by simp) (by simpa using hf) _) (fun v' σ' hR => ?_)
        obtain ⟨rfl, rfl⟩ := hR
        simp only [go_sem, Nat.reduceAdd, Nat.reduceEqDiff, Nat.reduceLeDiff, true_and, List.length_map, len_row, one_row, A.enc_one, A.enc_len, pb_geta, pb_geta0, pb_seta, pb_seta0, pb_len, bs_size]
        refine hK _ _ fun env' hw => ?_
        simp only [setL_cons, setL_nil, List.set_cons_zero, List.set_cons_succ] at hw
        exact ⟨.inl rfl, _, rfl, _, _, rfl, by simp only [pb_len], fun j a h => pb_keep2 ho j a h, rfl, ⟨rfl, congrArg (pb σ o true) (by first | rfl | (rw [hq]; done) | (rw [hq]; simp))⟩⟩
      · skip
        refine AW.regl false [34] (by rfl) fun K6 hK6 => ?_ -- region 8
        simp only [go_sem, Nat.reduceAdd, Nat.reduceEqDiff, Nat.reduceLeDiff, true_and, List.length_map, len_row, one_row, A.enc_one, A.enc_len, pb_geta, pb_geta0, pb_seta, pb_seta0, pb_len, bs_size]
        refine hK6 _ _ ?_; try clear hK6 K6
        conv => enter [5]; simp only [setL_cons, setL_nil, List.set_cons_zero, List.set_cons_succ]
        refine AW.cond rfl (fun hc34 => ?_) (fun hc34 => ?_)
        · skip
          obtain rfl : k = 3 := by simpa using hc34
          have hl1 : l.length = 1 := by simp at h1; omega
          obtain ⟨x, rfl⟩ := List.length_eq_one_iff.1 hl1
          obtain ⟨k2, p2, n2, s2, nl2, l2, rfl, hp2⟩ := hk x (by simp)
          refine AW.lastl false [] (by rfl) fun K hK => ?_ -- region 9
          simp only [go_sem, Nat.reduceAdd, Nat.reduceEqDiff, Nat.reduceLeDiff, true_and, List.length_map, len_row, one_row, A.enc_one, A.enc_len, pb_geta, pb_geta0, pb_seta, pb_seta0, pb_len, bs_size]
          refine sC.ofR en45 (unary_at ho hp2 (ih _ (by simp)) u t hf _) (fun v' σ' hR => ?_)
          obtain ⟨rfl, rfl⟩ := hR
          simp only [go_sem, Nat.reduceAdd, Nat.reduceEqDiff, Nat.reduceLeDiff, true_and, List.length_map, len_row, one_row, A.enc_one, A.enc_len, pb_geta, pb_geta0, pb_seta, pb_seta0, pb_len, bs_size]
          refine hK _ _ fun env' hw => ?_
          simp only [setL_cons, setL_nil, List.set_cons_zero, List.set_cons_succ] at hw
          exact ⟨.inl rfl, _, rfl, _, _, rfl, by simp only [pb_len], fun j a h => pb_keep2 ho j a h, rfl, ⟨rfl, congrArg (pb σ o true) (by first | rfl | (rw [hq]; done) | (rw [hq]; simp))⟩⟩
        · skip
          refine AW.regl false [39] (by rfl) fun K7 hK7 => ?_ -- region 10
          simp only [go_sem, Nat.reduceAdd, Nat.reduceEqDiff, Nat.reduceLeDiff, true_and, List.length_map, len_row, one_row, A.enc_one, A.enc_len, pb_geta, pb_geta0, pb_seta, pb_seta0, pb_len, bs_size]
          refine hK7 _ _ ?_; try clear hK7 K7
          conv => enter [5]; simp only [setL_cons, setL_nil, List.set_cons_zero, List.set_cons_succ]
          refine AW.cond rfl (fun hc39 => ?_) (fun hc39 => ?_)
          · skip
            obtain rfl : k = 4 := by simpa using hc39
            have hl1 : l.length = 2 ∧ 0 ≤ p ∧ p ≤ 15 := by simp at h1; omega
            obtain ⟨x, y, rfl⟩ := len2 hl1.1
            obtain ⟨k2, p2, n2, s2, nl2, l2, rfl, hp2⟩ := hk x (by simp)
            obtain ⟨k3, p3, n3, s3, nl3, l3, rfl, hp3⟩ := hk y (by simp)
            refine AW.lastl false [] (by rfl) fun K hK => ?_ -- region 11
            simp only [go_sem, Nat.reduceAdd, Nat.reduceEqDiff, Nat.reduceLeDiff, true_and, List.length_map, len_row, one_row, A.enc_one, A.enc_len, pb_geta, pb_geta0, pb_seta, pb_seta0, pb_len, bs_size]
            refine sC.ofR en46 (binary_at ho hl1.2.1 hl1.2.2 hp2 hp3 (ih _ (by simp)) (ih _ (by simp)) u t hf _) (fun v' σ' hR => ?_)
            obtain ⟨rfl, rfl⟩ := hR
            simp only [go_sem, Nat.reduceAdd, Nat.reduceEqDiff, Nat.reduceLeDiff, true_and, List.length_map, len_row, one_row, A.enc_one, A.enc_len, pb_geta, pb_geta0, pb_seta, pb_seta0, pb_len, bs_size]
            refine hK _ _ fun env' hw => ?_
            simp only [setL_cons, setL_nil, List.set_cons_zero, List.set_cons_succ] at hw
            exact ⟨.inl rfl, _, rfl, _, _, rfl, by simp only [pb_len], fun j a h => pb_keep2 ho j a h, rfl, ⟨rfl, congrArg (pb σ o true) (by first | rfl | (rw [hq]; done) | (rw [hq]; simp))⟩⟩
          · skip
            refine AW.regl false [44] (by rfl) fun K8 hK8 => ?_ -- region 12
            simp only [go_sem, Nat.reduceAdd, Nat.reduceEqDiff, Nat.reduceLeDiff, true_and, List.length_map, len_row, one_row, A.enc_one, A.enc_len, pb_geta, pb_geta0, pb_seta, pb_seta0, pb_len, bs_size]
            refine hK8 _ _ ?_; try clear hK8 K8
            conv => enter [5]; simp only [setL_cons, setL_nil, List.set_cons_zero, List.set_cons_succ]
            refine AW.cond rfl (fun hc44 => ?_) (fun hc44 => ?_)
            · skip
              obtain rfl : k = 5 := by simpa using hc44
              have hl1 : l.length = 3 := by simp at h1; omega
              have hq : tx (.mk 5 p n s nl l) = (ifP l).flatten := by
                obtain ⟨x, y, z, rfl⟩ := len3 hl1
                rw [ifP_flat, tx_mk]
                rfl
              rw [hq] at hf
              have hil : (ifP l).length = 3 := by simp [ifP, kwL, hl1]
              refine AW.regl false [46, 47, 48] (by rfl) fun K9 hK9 => ?_ -- region 13
              simp only [go_sem, Nat.reduceAdd, Nat.reduceEqDiff, Nat.reduceLeDiff, true_and, List.length_map, len_row, one_row, A.enc_one, A.enc_len, pb_geta, pb_geta0, pb_seta, pb_seta0, pb_len, bs_size, row3_51, kw_eq]
              refine hK9 _ _ ?_; try clear hK9 K9
              conv => enter [5]; simp only [setL_cons, setL_nil, List.set_cons_zero, List.set_cons_succ]
              refine AW.block ?_
              refine AW.loop_wk (α := Nat) (fun i => [(.ref o 0), .any, .any, (.ref σ.length 0), .any, .any, .any, .any, .any, .any, .any, .any, .any, .any, .any, .any, .any, .any, .any, .any, .any, .any, .any, .any, .any, .any, .any, .any, .any, .any, .any, .any, .any, .any, .any, .any, .any, .any, .any, .any, .any, .any, .any, .any, .any, .any, (rowAV 1 false (kwL.map (fun x => str (bs x)))), (.val (.int .i64 3)), (.val (.int .i64 ((i : Nat) : Int))), .any, .any, .any, .any, .any, .any, .any, .any, .any, .any, .any, .any, .any, .any, .any, .any, .any, .any, .any, .any, .any, .any, .any, .any, .any, .any, .any, .any, .any, .any, .any, .any, .any, .any, .any, .any, .any, .any, .any, .any, .any, .any, .any]) (fun i => pb σ o (decide (0 < i) || u) (t ++ ((ifP l).take i).flatten) ++ [.cells [i64 5, i64 p, i64 n, str s, rowAV 5 nl (l.map E.enc)]]) (fun i => 3 - i) (fun i => i ≤ 3) 0 ?_ ?_
              · exact ⟨Nat.zero_le _, by simp [Wk, show kwL.length = 3 from rfl], by simp⟩
              · intro i hi
                refine AW.regl false [49] (by rfl) fun K10 hK10 => ?_ -- region 14
                simp only [go_sem, Nat.reduceAdd, Nat.reduceEqDiff, Nat.reduceLeDiff, true_and, List.length_map, len_row, one_row, A.enc_one, A.enc_len, pb_geta, pb_geta0, pb_seta, pb_seta0, pb_len, bs_size]
                refine hK10 _ _ ?_; try clear hK10 K10
                conv => enter [5]; simp only [setL_cons, setL_nil, List.set_cons_zero, List.set_cons_succ]
                refine AW.seq_k fun K11 hK11 => ?_
                refine AW.cond rfl (fun hc49 => ?_) (fun hc49 => ?_)
                · skip
                  have hi1 : i < 3 := by have h := hc49; simp at h; omega
                  have hkl : i < kwL.length := hi1
                  have hll : i < l.length := by omega
                  have hkw : (kwL.map (fun x => str (bs x)))[i]? = some (str (bs kwL[i])) := by rw [List.getElem?_map, List.getElem?_eq_getElem hkl]; rfl
                  have hx : (l.map E.enc)[i]? = some (E.enc l[i]) := by rw [List.getElem?_map, List.getElem?_eq_getElem hll]; rfl
                  have hii : i < (ifP l).length := by omega
                  have hfl := flat_succ hii
                  have hgi : (ifP l)[i] = kwL[i] ++ tx l[i] := by simp [ifP]
                  have hfi := flat_le (ifP l) (i + 1)
                  rw [hfl, hgi, List.length_append, List.length_append] at hfi
                  refine AW.skip ?_
                  refine hK11 _ _ ?_; try clear hK11 K11
                  refine AW.seq_k fun K12 hK12 => ?_
                  refine AW.block ?_
                  refine AW.regl false [4, 5] (by rfl) fun K13 hK13 => ?_ -- region 15
                  simp only [go_sem, Nat.reduceAdd, Nat.reduceEqDiff, Nat.reduceLeDiff, true_and, List.length_map, len_row, one_row, A.enc_one, A.enc_len, pb_geta, pb_geta0, pb_seta, pb_seta0, pb_len, bs_size, at_row hkw]
                  refine hK13 _ _ ?_; try clear hK13 K13
                  conv => enter [5]; simp only [setL_cons, setL_nil, List.set_cons_zero, List.set_cons_succ]
                  refine AW.regl false [] (by rfl) fun K14 hK14 => ?_ -- region 16
                  simp only [go_sem, Nat.reduceAdd, Nat.reduceEqDiff, Nat.reduceLeDiff, true_and, List.length_map, len_row, one_row, A.enc_one, A.enc_len, pb_geta, pb_geta0, pb_seta, pb_seta0, pb_len, bs_size]
                  refine sC.ofR en34 (put_at ho _ _ [kwL[i]] (by simp) (by simp) (by (try simp only [List.length_append, List.length_cons, List.length_nil, List.flatten_cons, List.flatten_nil, List.append_nil]); omega) _) (fun v' σ' hR => ?_)
                  obtain ⟨rfl, rfl⟩ := hR
                  simp only [go_sem, Nat.reduceAdd, Nat.reduceEqDiff, Nat.reduceLeDiff, true_and, List.length_map, len_row, one_row, A.enc_one, A.enc_len, pb_geta, pb_geta0, pb_seta, pb_seta0, pb_len, bs_size]
                  refine hK14 _ _ ?_; try clear hK14 K14
                  conv => enter [5]; simp only [setL_cons, setL_nil, List.set_cons_zero, List.set_cons_succ]
                  refine AW.lastl false [] (by rfl) fun K hK => ?_ -- region 17
                  simp only [go_sem, Nat.reduceAdd, Nat.reduceEqDiff, Nat.reduceLeDiff, true_and, List.length_map, len_row, one_row, A.enc_one, A.enc_len, pb_geta, pb_geta0, pb_seta, pb_seta0, pb_len, bs_size, at_row hx, A.enc_get47]
                  refine sC.ofR en29 (expr_at (ih _ (List.getElem_mem hll)) ho true _ (by (try simp only [List.length_append, List.length_cons, List.length_nil, List.flatten_cons, List.flatten_nil, List.append_nil]); omega) _) (fun v' σ' hR => ?_)
                  obtain ⟨rfl, rfl⟩ := hR
                  simp only [go_sem, Nat.reduceAdd, Nat.reduceEqDiff, Nat.reduceLeDiff, true_and, List.length_map, len_row, one_row, A.enc_one, A.enc_len, pb_geta, pb_geta0, pb_seta, pb_seta0, pb_len, bs_size, at_row hx, A.enc_get47]
                  refine hK _ _ fun env' hw => ?_
                  simp only [setL_cons, setL_nil, List.set_cons_zero, List.set_cons_succ] at hw
                  refine hK12 _ _ (AW.weaken hw ?_); clear hw; try clear hK12 K12
                  refine AW.lastl false [48] (by rfl) fun K hK => ?_ -- region 18
                  simp only [go_sem, Nat.reduceAdd, Nat.reduceEqDiff, Nat.reduceLeDiff, true_and, List.length_map, len_row, one_row, A.enc_one, A.enc_len, pb_geta, pb_geta0, pb_seta, pb_seta0, pb_len, bs_size]
                  refine hK _ _ fun env' hw => ?_
                  simp only [setL_cons, setL_nil, List.set_cons_zero, List.set_cons_succ] at hw
                  refine ⟨i + 1, by omega, by omega, ?_, ?_⟩
                  · refine hw.trans ?_
                    simp [Wk, wrap_succ hi1 (show 3 ≤ maxLen by decide)]
                  · rw [hfl, hgi]
                    simp
                · skip
                  have hi1 : i = 3 := by have h := hc49; simp at h; omega
                  have htk : (ifP l).take i = ifP l := List.take_of_length_le (by omega)
                  rw [htk, show (decide (0 < i) || u) = true by simp [hi1]]
                  refine AW.exit ?_
                  exact ⟨.inl rfl, _, rfl, _, _, rfl, by simp only [pb_len], fun j a h => pb_keep2 ho j a h, rfl, ⟨rfl, congrArg (pb σ o true) (by first | rfl | (rw [hq]; done) | (rw [hq]; simp))⟩⟩
            · skip
              refine AW.regl false [65] (by rfl) fun K15 hK15 => ?_ -- region 19
              simp only [go_sem, Nat.reduceAdd, Nat.reduceEqDiff, Nat.reduceLeDiff, true_and, List.length_map, len_row, one_row, A.enc_one, A.enc_len, pb_geta, pb_geta0, pb_seta, pb_seta0, pb_len, bs_size]
              refine hK15 _ _ ?_; try clear hK15 K15
              conv => enter [5]; simp only [setL_cons, setL_nil, List.set_cons_zero, List.set_cons_succ]
              refine AW.cond rfl (fun hc65 => ?_) (fun hc65 => ?_)
              · skip
                obtain rfl : k = 6 := by simpa using hc65
                have hq : tx (.mk 6 p n s nl l) = s.data.toList ++ ([40] ++ (sepC.intercalate (l.map tx) ++ [41])) := by rw [tx_mk]; rfl
                rw [hq] at hf
                simp only [List.length_append, List.length_cons, List.length_nil] at hf
                refine AW.regl false [] (by rfl) fun K16 hK16 => ?_ -- region 20
                simp only [go_sem, Nat.reduceAdd, Nat.reduceEqDiff, Nat.reduceLeDiff, true_and, List.length_map, len_row, one_row, A.enc_one, A.enc_len, pb_geta, pb_geta0, pb_seta, pb_seta0, pb_len, bs_size]
                refine sC.ofR en34 (put_at ho u _ [s.data.toList, [40]] (by simp) (by simp) (by (try simp only [List.length_append, List.length_cons, List.length_nil, List.flatten_cons, List.flatten_nil, List.append_nil]); omega) _) (fun v' σ' hR => ?_)
                obtain ⟨rfl, rfl⟩ := hR
                simp only [go_sem, Nat.reduceAdd, Nat.reduceEqDiff, Nat.reduceLeDiff, true_and, List.length_map, len_row, one_row, A.enc_one, A.enc_len, pb_geta, pb_geta0, pb_seta, pb_seta0, pb_len, bs_size]
                refine hK16 _ _ ?_; try clear hK16 K16
                conv => enter [5]; simp only [setL_cons, setL_nil, List.set_cons_zero, List.set_cons_succ]
                refine AW.seq_k fun K17 hK17 => ?_
                refine AW.regl false [73, 74, 75] (by rfl) fun K18 hK18 => ?_ -- region 21
                simp only [go_sem, Nat.reduceAdd, Nat.reduceEqDiff, Nat.reduceLeDiff, true_and, List.length_map, len_row, one_row, A.enc_one, A.enc_len, pb_geta, pb_geta0, pb_seta, pb_seta0, pb_len, bs_size]
                refine hK18 _ _ ?_; try clear hK18 K18
                conv => enter [5]; simp only [setL_cons, setL_nil, List.set_cons_zero, List.set_cons_succ]
                refine AW.block ?_
                refine AW.loop_dr (α := Nat) (fun i => [(.ref o 0), .any, .any, .any, .any, .any, .any, .any, .any, .any, .any, .any, .any, .any, .any, .any, .any, .any, .any, .any, .any, .any, .any, .any, .any, .any, .any, .any, .any, .any, .any, .any, .any, .any, .any, .any, .any, .any, .any, .any, .any, .any, .any, .any, .any, .any, .any, .any, .any, .any, .any, .any, .any, .any, .any, .any, .any, .any, .any, .any, .any, .any, .any, .any, .any, .any, .any, .any, .any, .any, .any, .any, .any, (rowAV 5 nl (l.map E.enc)), (.val (.int .i64 ((l.length : Nat) : Int))), (.val (.int .i64 ((i : Nat) : Int))), .any, .any, .any, .any, .any, .any, .any, .any, .any, .any, .any, .any, .any, .any, .any, .any]) (fun i => pb σ o true (t ++ (s.data.toList ++ ([40] ++ sepC.intercalate ((l.map tx).take i)))) ++ [.cells [i64 6, i64 p, i64 n, str s, rowAV 5 nl (l.map E.enc)]]) (fun i => l.length - i) (fun i => i ≤ l.length) 0 ?_ ?_ ?_
                · exact ⟨Nat.zero_le _, by simp [Wk], by simp [inter_nil]⟩
                · exact fun y _ => ⟨by simp [belL, AV.bel, A.row_bel5, pb_len]; omega, fun j a h => pb_keepL ho (by simp [pb_len]) _ j a h⟩
                · intro i hi
                  refine AW.regl false [76] (by rfl) fun K19 hK19 => ?_ -- region 22
                  simp only [go_sem, Nat.reduceAdd, Nat.reduceEqDiff, Nat.reduceLeDiff, true_and, List.length_map, len_row, one_row, A.enc_one, A.enc_len, pb_geta, pb_geta0, pb_seta, pb_seta0, pb_len, bs_size]
                  refine hK19 _ _ ?_; try clear hK19 K19
                  conv => enter [5]; simp only [setL_cons, setL_nil, List.set_cons_zero, List.set_cons_succ]
                  refine AW.seq_k fun K20 hK20 => ?_
                  refine AW.cond rfl (fun hc76 => ?_) (fun hc76 => ?_)
                  · skip
                    have hi1 : i < l.length := by simpa using hc76
                    have hx : (l.map E.enc)[i]? = some (E.enc (l[i])) := by rw [List.getElem?_map, List.getElem?_eq_getElem hi1]; rfl
                    have hs2 : sepC.length = 2 := rfl
                    have hit := inter_take_le sepC (l.map tx) (i + 1)
                    have hil : i < (l.map tx).length := by simpa using hi1
                    have hgi : (l.map tx)[i] = tx l[i] := by simp
                    refine AW.skip ?_
                    refine hK20 _ _ ?_; try clear hK20 K20
                    refine AW.seq_k fun K21 hK21 => ?_
                    refine AW.block ?_
                    refine AW.regl false [7, 6] (by rfl) fun K22 hK22 => ?_ -- region 23
                    simp only [go_sem, Nat.reduceAdd, Nat.reduceEqDiff, Nat.reduceLeDiff, true_and, List.length_map, len_row, one_row, A.enc_one, A.enc_len, pb_geta, pb_geta0, pb_seta, pb_seta0, pb_len, bs_size, at_row hx, A.enc_get47]
                    refine hK22 _ _ ?_; try clear hK22 K22
                    conv => enter [5]; simp only [setL_cons, setL_nil, List.set_cons_zero, List.set_cons_succ, upd_none, upd_at]
                    refine AW.seq_k fun K23 hK23 => ?_
                    refine AW.regl false [81] (by rfl) fun K24 hK24 => ?_ -- region 24
                    simp only [go_sem, Nat.reduceAdd, Nat.reduceEqDiff, Nat.reduceLeDiff, true_and, List.length_map, len_row, one_row, A.enc_one, A.enc_len, pb_geta, pb_geta0, pb_seta, pb_seta0, pb_len, bs_size]
                    refine hK24 _ _ ?_; try clear hK24 K24
                    conv => enter [5]; simp only [setL_cons, setL_nil, List.set_cons_zero, List.set_cons_succ]
                    refine AW.cond rfl (fun hc81 => ?_) (fun hc81 => ?_)
                    · skip
                      have h0 : 0 < i := by simpa using hc81
                      have hst := inter_step sepC hil h0
                      rw [hgi] at hst
                      rw [hst] at hit
                      simp only [List.length_append] at hit
                      refine AW.lastl false [] (by rfl) fun K hK => ?_ -- region 25
                      simp only [go_sem, Nat.reduceAdd, Nat.reduceEqDiff, Nat.reduceLeDiff, true_and, List.length_map, len_row, one_row, A.enc_one, A.enc_len, pb_geta, pb_geta0, pb_seta, pb_seta0, pb_len, bs_size]
                      refine sC.ofR en34 (put_at ho true _ [[44, 32]] (by simp) (by simp) (by (try simp only [List.length_append, List.length_cons, List.length_nil, List.flatten_cons, List.flatten_nil, List.append_nil]); omega) _) (fun v' σ' hR => ?_)
                      obtain ⟨rfl, rfl⟩ := hR
                      simp only [go_sem, Nat.reduceAdd, Nat.reduceEqDiff, Nat.reduceLeDiff, true_and, List.length_map, len_row, one_row, A.enc_one, A.enc_len, pb_geta, pb_geta0, pb_seta, pb_seta0, pb_len, bs_size]
                      refine hK _ _ fun env' hw => ?_
                      simp only [setL_cons, setL_nil, List.set_cons_zero, List.set_cons_succ] at hw
                      refine hK23 _ _ (AW.weaken hw ?_); clear hw; try clear hK23 K23
                      refine AW.lastl false [] (by rfl) fun K hK => ?_ -- region 26
                      simp only [go_sem, Nat.reduceAdd, Nat.reduceEqDiff, Nat.reduceLeDiff, true_and, List.length_map, len_row, one_row, A.enc_one, A.enc_len, pb_geta, pb_geta0, pb_seta, pb_seta0, pb_len, bs_size, A.enc_get47]
                      refine sC.ofR en29 (expr_at (ih _ (List.getElem_mem hi1)) ho true _ (by (try simp only [List.length_append, List.length_cons, List.length_nil, List.flatten_cons, List.flatten_nil, List.append_nil]); omega) _) (fun v' σ' hR => ?_)
                      obtain ⟨rfl, rfl⟩ := hR
                      simp only [go_sem, Nat.reduceAdd, Nat.reduceEqDiff, Nat.reduceLeDiff, true_and, List.length_map, len_row, one_row, A.enc_one, A.enc_len, pb_geta, pb_geta0, pb_seta, pb_seta0, pb_len, bs_size, A.enc_get47]
                      refine hK _ _ fun env' hw => ?_
                      simp only [setL_cons, setL_nil, List.set_cons_zero, List.set_cons_succ] at hw
                      refine hK21 _ _ (AW.weaken hw ?_); clear hw; try clear hK21 K21
                      refine AW.lastl false [75] (by rfl) fun K hK => ?_ -- region 27
                      simp only [go_sem, Nat.reduceAdd, Nat.reduceEqDiff, Nat.reduceLeDiff, true_and, List.length_map, len_row, one_row, A.enc_one, A.enc_len, pb_geta, pb_geta0, pb_seta, pb_seta0, pb_len, bs_size]
                      refine hK _ _ fun env' hw => ?_
                      simp only [setL_cons, setL_nil, List.set_cons_zero, List.set_cons_succ] at hw
                      refine ⟨i + 1, by omega, by omega, ?_, ?_⟩
                      · refine hw.trans ?_
                        simp [Wk, wrap_succ hi1 hl]
                      · rw [hst]
                        simp [List.take_append, List.take_of_length_le, pb_len, sepC]
                    · skip
                      have hi0 : i = 0 := by
                        have : ¬ 0 < i := by simpa using hc81
                        omega
                      have hst : sepC.intercalate ((l.map tx).take (i + 1)) = sepC.intercalate ((l.map tx).take i) ++ tx l[i] := by
                        cases hi0
                        rw [List.take_zero, inter_nil, List.nil_append, ← hgi]
                        exact inter_first sepC hil
                      rw [hst] at hit
                      simp only [List.length_append] at hit
                      refine AW.skip ?_
                      refine hK23 _ _ ?_; try clear hK23 K23
                      refine AW.lastl false [] (by rfl) fun K hK => ?_ -- region 26
                      simp only [go_sem, Nat.reduceAdd, Nat.reduceEqDiff, Nat.reduceLeDiff, true_and, List.length_map, len_row, one_row, A.enc_one, A.enc_len, pb_geta, pb_geta0, pb_seta, pb_seta0, pb_len, bs_size, A.enc_get47]
                      refine sC.ofR en29 (expr_at (ih _ (List.getElem_mem hi1)) ho true _ (by (try simp only [List.length_append, List.length_cons, List.length_nil, List.flatten_cons, List.flatten_nil, List.append_nil]); omega) _) (fun v' σ' hR => ?_)
                      obtain ⟨rfl, rfl⟩ := hR
                      simp only [go_sem, Nat.reduceAdd, Nat.reduceEqDiff, Nat.reduceLeDiff, true_and, List.length_map, len_row, one_row, A.enc_one, A.enc_len, pb_geta, pb_geta0, pb_seta, pb_seta0, pb_len, bs_size, A.enc_get47]
                      refine hK _ _ fun env' hw => ?_
                      simp only [setL_cons, setL_nil, List.set_cons_zero, List.set_cons_succ] at hw
                      refine hK21 _ _ (AW.weaken hw ?_); clear hw; try clear hK21 K21
                      refine AW.lastl false [75] (by rfl) fun K hK => ?_ -- region 27
                      simp only [go_sem, Nat.reduceAdd, Nat.reduceEqDiff, Nat.reduceLeDiff, true_and, List.length_map, len_row, one_row, A.enc_one, A.enc_len, pb_geta, pb_geta0, pb_seta, pb_seta0, pb_len, bs_size]
                      refine hK _ _ fun env' hw => ?_
                      simp only [setL_cons, setL_nil, List.set_cons_zero, List.set_cons_succ] at hw
                      refine ⟨i + 1, by omega, by omega, ?_, ?_⟩
                      · refine hw.trans ?_
                        simp [Wk, wrap_succ hi1 hl]
                      · rw [hst]
                        simp [List.take_append, List.take_of_length_le, pb_len, sepC]
                  · skip
                    have hi1 : i = l.length := by
                      have : ¬ i < l.length := by simpa using hc76
                      omega
                    rw [hi1, show (l.map tx).take l.length = l.map tx from List.take_of_length_le (by simp)]
                    refine AW.exit ?_
                    refine hK17 _ _ ?_; try clear hK17 K17
                    refine AW.lastl false [] (by rfl) fun K hK => ?_ -- region 28
                    simp only [go_sem, Nat.reduceAdd, Nat.reduceEqDiff, Nat.reduceLeDiff, true_and, List.length_map, len_row, one_row, A.enc_one, A.enc_len, pb_geta, pb_geta0, pb_seta, pb_seta0, pb_len, bs_size]
                    refine sC.ofR en34 (put_at ho true _ [[41]] (by simp) (by simp) (by (try simp only [List.length_append, List.length_cons, List.length_nil, List.flatten_cons, List.flatten_nil, List.append_nil]); omega) _) (fun v' σ' hR => ?_)
                    obtain ⟨rfl, rfl⟩ := hR
                    simp only [go_sem, Nat.reduceAdd, Nat.reduceEqDiff, Nat.reduceLeDiff, true_and, List.length_map, len_row, one_row, A.enc_one, A.enc_len, pb_geta, pb_geta0, pb_seta, pb_seta0, pb_len, bs_size]
                    refine hK _ _ fun env' hw => ?_
                    simp only [setL_cons, setL_nil, List.set_cons_zero, List.set_cons_succ] at hw
                    exact ⟨.inl rfl, _, rfl, _, _, rfl, by simp only [pb_len], fun j a h => pb_keep2 ho j a h, rfl, ⟨rfl, congrArg (pb σ o true) (by first | rfl | (rw [hq]; done) | (rw [hq]; simp))⟩⟩
              · skip
                exfalso
                simp only [beq_iff_eq] at h1
                simp at hc10 hc18 hc27 hc34 hc39 hc44 hc65
                simp [hc10, hc18, hc27, hc34, hc39, hc44, hc65] at h1
open A (E VarM EqM NodeM ProgM) in
theorem expr_ok {w : AV} : ∀ e : E, e.shape = true → (∀ d ∈ e.pre, rng d) → ExprOk w e := by
  refine E.ind fun k p n s nl l ih hs hr => ?_
  simp only [E.shape, Bool.and_eq_true] at hs
  obtain ⟨hsl, h1⟩ := hs
  rw [A.shapeL_all, List.all_eq_true] at hsl
  have hrl : ∀ e ∈ l, ∀ d ∈ e.pre, rng d := fun e he d hd => hr d (by rw [E.pre]; exact List.mem_cons_of_mem _ (A.preL_mem he hd))
  intro σ o ho u t hf
  refine expr_step k p n s nl l h1 (hr _ (by rw [E.pre]; exact List.mem_cons_self)) (fun e he => ?_) (fun e he => ih e he (hsl e he) (hrl e he)) ho u t hf
  have h2 := hsl e he
  cases e with
  | mk k2 p2 n2 s2 nl2 l2 =>
    refine ⟨k2, p2, n2, s2, nl2, l2, rfl, fun hk => ?_⟩
    subst hk
    simp [E.shape, A.single] at h2
    omega
end Pr
end Go.Proofs.Tryd
/-! Printing: function 35. -/
namespace Go.Proofs.Tryd
set_option linter.unusedSimpArgs false
set_option linter.unusedVariables false
open Go Go.Proofs.Ev
namespace Pr
variable {Γ : List (Nat × List AV)}
set_option maxRecDepth 100000 in
open A (E VarM EqM NodeM ProgM) in
theorem vars_text {w : AV} (nl : Bool) (l : List VarM) (hr : A.varsR l = true) : APure prog (GP w) 35 [rowAV 2 nl (l.map VarM.enc)] (str (bs (varsT l))) := by
  refine APure.of func35 rfl fun σ => ?_
  simp only [ntmps35, List.length_cons, List.length_nil, Nat.reduceAdd, Nat.reduceSub, List.replicate_succ, List.replicate_zero, List.cons_append, List.nil_append]
  obtain ⟨hlen, hwr⟩ := varsR_mem hr
  have hl0 : l.length ≤ maxLen := by rw [maxLen_eq]; omega
  refine AW.regl false [2] (by rfl) fun K1 hK1 => ?_ -- region 0
  simp only [go_sem, Nat.reduceAdd, Nat.reduceEqDiff, Nat.reduceLeDiff, true_and, List.length_map, len_row, one_row, app_get, app_get0]
  refine hK1 _ _ ?_; try clear hK1 K1
  conv => enter [5]; simp only [setL_cons, setL_nil, List.set_cons_zero, List.set_cons_succ]
  refine AW.regl false [3] (by rfl) fun K2 hK2 => ?_ -- region 1
  simp only [go_sem, Nat.reduceAdd, Nat.reduceEqDiff, Nat.reduceLeDiff, true_and, List.length_map, len_row, one_row, app_get, app_get0]
  refine hK2 _ _ ?_; try clear hK2 K2
  conv => enter [5]; simp only [setL_cons, setL_nil, List.set_cons_zero, List.set_cons_succ]
  refine AW.cap 1 ?_
  try simp only [List.append_assoc, List.cons_append, List.nil_append]
  refine AW.ownT 3 σ.length rfl ((app_get0 _ _).trans rfl) (by decide) ?_
  try simp only [List.set_cons_zero, List.set_cons_succ]
  refine AW.seq_k fun K3 hK3 => ?_
  refine AW.regl false [6, 7, 8] (by rfl) fun K4 hK4 => ?_ -- region 2
  simp only [go_sem, Nat.reduceAdd, Nat.reduceEqDiff, Nat.reduceLeDiff, true_and, List.length_map, len_row, one_row, app_get, app_get0]
  refine hK4 _ _ ?_; try clear hK4 K4
  conv => enter [5]; simp only [setL_cons, setL_nil, List.set_cons_zero, List.set_cons_succ]
  refine AW.block ?_
  refine AW.loop_dr (α := Nat) (fun i => [.any, .any, .any, (.slo true 1 (((l.take i).map varT).map (fun x => str (bs x))) σ.length), .any, .any, (rowAV 2 nl (l.map VarM.enc)), (.val (.int .i64 ((l.length : Nat) : Int))), (.val (.int .i64 ((i : Nat) : Int))), .any, .any, .any, .any, .any, .any, .any, .any, .any, .any, .any, .any, .any, .any, .any, .any, .any, .any]) (fun i => σ ++ [.cap i 1]) (fun i => l.length - i) (fun i => i ≤ l.length) 0 ?_ ?_ ?_
  · exact ⟨Nat.zero_le _, by simp [Wk], rfl⟩
  · exact fun y _ => ⟨by simp only [belL, AV.bel, Bool.and_true, Bool.true_and, Bool.and_eq_true, decide_eq_true_eq]; and_intros <;> first | exact row_belA (vars_bel _ _) | exact belL_of (strs_bel _ _) | simp, bel_app σ fun a ha => by simp only [List.mem_cons, List.not_mem_nil, or_false] at ha; subst ha; rfl⟩
  · intro i hi
    refine AW.regl false [9] (by rfl) fun K5 hK5 => ?_ -- region 3
    simp only [go_sem, Nat.reduceAdd, Nat.reduceEqDiff, Nat.reduceLeDiff, true_and, List.length_map, len_row, one_row, app_get, app_get0]
    refine hK5 _ _ ?_; try clear hK5 K5
    conv => enter [5]; simp only [setL_cons, setL_nil, List.set_cons_zero, List.set_cons_succ]
    refine AW.seq_k fun K6 hK6 => ?_
    refine AW.cond rfl (fun hc9 => ?_) (fun hc9 => ?_)
    · skip
      have hi1 : i < l.length := by simpa using hc9
      have hx : (l.map VarM.enc)[i]? = some (.agg [.val (.string ((l[i]).name)), .val (.int .i64 ((l[i]).type))]) := by rw [List.getElem?_map, List.getElem?_eq_getElem hi1]; rfl
      obtain ⟨h60, hty0, hty1⟩ := var_ok (hwr _ (List.getElem_mem hi1))
      have hap := app_at (en := fun v => str (bs (varT v))) hi1 (by omega) true 1 16 (by decide)
      have htk : ((l.take i).map varT).map (fun x => str (bs x)) ++ [.val (.string (bs (varT l[i])))] = ((l.take (i + 1)).map varT).map (fun x => str (bs x)) := by rw [List.map_map, List.map_map]; exact take_at ((fun x => str (bs x)) ∘ varT) hi1
      rw [show (l.take i).map (fun v => str (bs (varT v))) = ((l.take i).map varT).map (fun x => str (bs x)) by rw [List.map_map]; rfl] at hap
      have hn60 : l[i].name.data.toList.length ≤ 60 := h60
      have hty : (tyT l[i].type).length ≤ 4 := by unfold tyT; split <;> decide
      have hA1 : aBin prog .add 9 (str l[i].name) (str ⟨#[58, 32]⟩) = some (str (bs (l[i].name.data.toList ++ [58, 32]))) := addS 9 (a := l[i].name.data.toList) (b := [58, 32]) (show _ ≤ 140737488355328 by simp; omega)
      have hA2 : aBin prog .add 9 (str (bs (l[i].name.data.toList ++ [58, 32]))) (str (bs (tyT l[i].type))) = some (str (bs (varT l[i]))) := addS 9 (show _ ≤ 140737488355328 by simp; omega)
      refine AW.skip ?_
      refine hK6 _ _ ?_; try clear hK6 K6
      refine AW.seq_k fun K7 hK7 => ?_
      refine AW.block ?_
      refine AW.regl false [5] (by rfl) fun K8 hK8 => ?_ -- region 4
      simp only [go_sem, Nat.reduceAdd, Nat.reduceEqDiff, Nat.reduceLeDiff, true_and, List.length_map, len_row, one_row, app_get, app_get0, at_row hx]
      refine hK8 _ _ ?_; try clear hK8 K8
      conv => enter [5]; simp only [setL_cons, setL_nil, List.set_cons_zero, List.set_cons_succ, upd_none, upd_at]
      refine AW.lastml mixed false [3] 11 (by kernel_rfl) (by kernel_rfl) (by rfl) fun K hK => ?_ -- region 5
      simp only [go_sem, Nat.reduceAdd, Nat.reduceEqDiff, Nat.reduceLeDiff, true_and, List.length_map, len_row, one_row, app_get, app_get0, row2_51, row1_51, ty_at hty0 hty1, hA1, hA2, hap, htk]
      refine hK _ _ fun env' hw => ?_
      simp only [setL_cons, setL_nil, List.set_cons_zero, List.set_cons_succ, upd_none, upd_at] at hw
      refine hK7 _ _ (AW.weaken hw ?_); clear hw; try clear hK7 K7
      refine AW.lastl false [8] (by rfl) fun K hK => ?_ -- region 6
      simp only [go_sem, Nat.reduceAdd, Nat.reduceEqDiff, Nat.reduceLeDiff, true_and, List.length_map, len_row, one_row, app_get, app_get0]
      refine hK _ _ fun env' hw => ?_
      simp only [setL_cons, setL_nil, List.set_cons_zero, List.set_cons_succ] at hw
      refine ⟨i + 1, by omega, by omega, ?_, by first | rfl | (simp [List.take_append, List.take_of_length_le]; done) | (simp [List.take_append, List.take_of_length_le]; repeat' constructor)⟩
      refine hw.trans ?_
      simp [Wk, wrap_succ hi1 hl0]
      try omega
    · skip
      have hi1 : i = l.length := by
        have : ¬ i < l.length := by simpa using hc9
        omega
      rw [hi1, List.take_length]
      refine AW.exit ?_
      refine hK3 _ _ ?_; try clear hK3 K3
      refine AW.regl false [2] (by rfl) fun K9 hK9 => ?_ -- region 7
      simp only [go_sem, Nat.reduceAdd, Nat.reduceEqDiff, Nat.reduceLeDiff, true_and, List.length_map, len_row, one_row, app_get, app_get0]
      refine sC.of en36 ((joino_calls (σ := σ) (l.map varT) sepS (by simp; omega) (by have := varsT_le hr; unfold varsT at this; omega)).on _).here (by rfl) ?_
      simp only [go_sem, Nat.reduceAdd, Nat.reduceEqDiff, Nat.reduceLeDiff, true_and, List.length_map, len_row, one_row, app_get, app_get0]
      refine hK9 _ _ ?_; try clear hK9 K9
      conv => enter [5]; simp only [setL_cons, setL_nil, List.set_cons_zero, List.set_cons_succ]
      refine AW.ret ⟨.inr rfl, _, rfl, by simp, ?_⟩ -- return 1
      exact .keep rfl
end Pr
end Go.Proofs.Tryd
/-! Printing: function 16. -/
namespace Go.Proofs.Tryd
set_option linter.unusedSimpArgs false
set_option linter.unusedVariables false
open Go Go.Proofs.Ev
namespace Pr
variable {Γ : List (Nat × List AV)}
set_option maxRecDepth 100000 in
set_option maxHeartbeats 2000000 in
open A (E VarM EqM NodeM ProgM) in
theorem node_text {w : AV} {σ : Sto} {o : Nat} (ho : o + 3 < σ.length) (n : NodeM) (hr : n.right = true) (hg : ∀ q ∈ n.eqs, ∀ d ∈ q.rhs.pre, rng d) (u : Bool) (t : List UInt8) (hf : t.length + (nodeT n).length ≤ LIM) : ACalls prog (GP w) 16 [.ref o 0, NodeM.enc n] (pb σ o u t) (fun v σ' => v = .tup [] ∧ σ' = pb σ o true (t ++ nodeT n)) := by
  refine ACalls.ofT func16 rfl ?_
  simp only [ntmps16, List.length_cons, List.length_nil, Nat.reduceAdd, Nat.reduceSub, List.replicate_succ, List.replicate_zero, List.cons_append, List.nil_append]
  obtain ⟨hnm, hvi, hvo, hvl, hel, heq⟩ := node_right hr
  have hl0 : n.eqs.length ≤ maxLen := by rw [maxLen_eq]; omega
  have hnt : (nodeT n).length = (nodeH n).length + ((n.eqs.map eqT).flatten.length + 4) := by simp [nodeT]
  have hf2 := hf
  simp only [nodeT, nodeH, List.length_append, List.length_cons, List.length_nil] at hf2
  refine AW.regl false [3] (by rfl) fun K1 hK1 => ?_ -- region 0
  simp only [go_sem, Nat.reduceAdd, Nat.reduceEqDiff, Nat.reduceLeDiff, true_and, List.length_map, len_row, one_row, A.enc_one, A.enc_len, pb_geta, pb_geta0, pb_seta, pb_seta0, pb_len, bs_size, NodeM.enc, EqM.enc, VarM.enc, A.eqc_get128, List.drop_succ_cons, List.drop_zero, A.enc_get47]
  refine hK1 _ _ ?_; try clear hK1 K1
  conv => enter [5]; simp only [setL_cons, setL_nil, List.set_cons_zero, List.set_cons_succ]
  refine AW.regch mixed [pb σ o u t ++ [.cells [str n.name, rowAV 2 n.nlI (n.ins.map VarM.enc), rowAV 2 n.nlO (n.outs.map VarM.enc), rowAV 2 n.nlL (n.locals.map VarM.enc), rowAV 6 n.nlE (n.eqs.map EqM.enc)]], pb σ o true (t ++ [[110, 111, 100, 101, 32], n.name.data.toList, [40], varsT n.ins, [41, 32, 114, 101, 116, 117, 114, 110, 115, 32, 40], varsT n.outs, [41, 59, 10]].flatten) ++ [.cells [str n.name, rowAV 2 n.nlI (n.ins.map VarM.enc), rowAV 2 n.nlO (n.outs.map VarM.enc), rowAV 2 n.nlL (n.locals.map VarM.enc), rowAV 6 n.nlE (n.eqs.map EqM.enc)]]] [(0, 0, true), (0, 0, true), (0, 0, true), (0, 0, true), (0, 0, true), (0, 0, true), (0, 0, true), (0, 0, true), (0, 0, true), (0, 0, true), (0, 0, false)] [] (by kernel_rfl) (by rfl) (by kernel_rfl) (by rfl) fun K2 hK2 => ?_ -- region 1
  simp only [go_sem, Nat.reduceAdd, Nat.reduceEqDiff, Nat.reduceLeDiff, true_and, List.length_map, len_row, one_row, A.enc_one, A.enc_len, pb_geta, pb_geta0, pb_seta, pb_seta0, pb_len, bs_size, NodeM.enc, EqM.enc, VarM.enc, A.eqc_get128, List.drop_succ_cons, List.drop_zero, A.enc_get47, row7_51, List.append_assoc, List.cons_append, List.nil_append]
  refine xQ.of en35 (fun s _ => ((vars_text n.nlI n.ins hvi)) s) (by rfl) ?_
  simp only [go_sem, Nat.reduceAdd, Nat.reduceEqDiff, Nat.reduceLeDiff, true_and, List.length_map, len_row, one_row, A.enc_one, A.enc_len, pb_geta, pb_geta0, pb_seta, pb_seta0, pb_len, bs_size, NodeM.enc, EqM.enc, VarM.enc, A.eqc_get128, List.drop_succ_cons, List.drop_zero, A.enc_get47, row7_51, List.append_assoc, List.cons_append, List.nil_append]
  refine xQ.of en35 (fun s _ => ((vars_text n.nlO n.outs hvo)) s) (by rfl) ?_
  simp only [go_sem, Nat.reduceAdd, Nat.reduceEqDiff, Nat.reduceLeDiff, true_and, List.length_map, len_row, one_row, A.enc_one, A.enc_len, pb_geta, pb_geta0, pb_seta, pb_seta0, pb_len, bs_size, NodeM.enc, EqM.enc, VarM.enc, A.eqc_get128, List.drop_succ_cons, List.drop_zero, A.enc_get47, row7_51, List.append_assoc, List.cons_append, List.nil_append]
  refine xC.of en34 (put_atS ho u t [[110, 111, 100, 101, 32], n.name.data.toList, [40], varsT n.ins, [41, 32, 114, 101, 116, 117, 114, 110, 115, 32, 40], varsT n.outs, [41, 59, 10]] (by simp) (by simp) (by (try simp only [List.length_append, List.length_cons, List.length_nil, List.flatten_cons, List.flatten_nil, List.append_nil]); omega) _) (by rfl) ?_
  simp only [go_sem, Nat.reduceAdd, Nat.reduceEqDiff, Nat.reduceLeDiff, true_and, List.length_map, len_row, one_row, A.enc_one, A.enc_len, pb_geta, pb_geta0, pb_seta, pb_seta0, pb_len, bs_size, NodeM.enc, EqM.enc, VarM.enc, A.eqc_get128, List.drop_succ_cons, List.drop_zero, A.enc_get47, row7_51, List.append_assoc, List.cons_append, List.nil_append]
  refine hK2 _ ?_; try clear hK2 K2
  conv => enter [5]; simp only [setL_cons, setL_nil, List.set_cons_zero, List.set_cons_succ]
  show AW _ _ _ _ _ (pb σ o true (t ++ [[110, 111, 100, 101, 32], n.name.data.toList, [40], varsT n.ins, [41, 32, 114, 101, 116, 117, 114, 110, 115, 32, 40], varsT n.outs, [41, 59, 10]].flatten) ++ [.cells [str n.name, rowAV 2 n.nlI (n.ins.map VarM.enc), rowAV 2 n.nlO (n.outs.map VarM.enc), rowAV 2 n.nlL (n.locals.map VarM.enc), rowAV 6 n.nlE (n.eqs.map EqM.enc)]]) _
  refine AW.seq_k fun K3 hK3 => ?_
  refine AW.regl false [21] (by rfl) fun K4 hK4 => ?_ -- region 2
  simp only [go_sem, Nat.reduceAdd, Nat.reduceEqDiff, Nat.reduceLeDiff, true_and, List.length_map, len_row, one_row, A.enc_one, A.enc_len, pb_geta, pb_geta0, pb_seta, pb_seta0, pb_len, bs_size, NodeM.enc, EqM.enc, VarM.enc, A.eqc_get128, List.drop_succ_cons, List.drop_zero, A.enc_get47]
  refine hK4 _ _ ?_; try clear hK4 K4
  conv => enter [5]; simp only [setL_cons, setL_nil, List.set_cons_zero, List.set_cons_succ]
  refine AW.cond rfl (fun hc21 => ?_) (fun hc21 => ?_)
  · skip
    have hloc : n.locals.length > 0 := by simpa using hc21
    rw [if_pos hloc] at hf2
    simp only [List.length_append, List.length_cons, List.length_nil] at hf2
    refine AW.lastl false [] (by rfl) fun K hK => ?_ -- region 3
    simp only [go_sem, Nat.reduceAdd, Nat.reduceEqDiff, Nat.reduceLeDiff, true_and, List.length_map, len_row, one_row, A.enc_one, A.enc_len, pb_geta, pb_geta0, pb_seta, pb_seta0, pb_len, bs_size, NodeM.enc, EqM.enc, VarM.enc, A.eqc_get128, List.drop_succ_cons, List.drop_zero, A.enc_get47, row3_51]
    refine sC.of en35 ((vars_text n.nlL n.locals hvl).on _).here (by rfl) ?_
    simp only [go_sem, Nat.reduceAdd, Nat.reduceEqDiff, Nat.reduceLeDiff, true_and, List.length_map, len_row, one_row, A.enc_one, A.enc_len, pb_geta, pb_geta0, pb_seta, pb_seta0, pb_len, bs_size, NodeM.enc, EqM.enc, VarM.enc, A.eqc_get128, List.drop_succ_cons, List.drop_zero, A.enc_get47, row3_51]
    refine sC.ofR en34 (put_at ho true _ [[118, 97, 114, 32], varsT n.locals, [59, 10]] (by simp) (by simp) (by (try simp only [List.length_append, List.length_cons, List.length_nil, List.flatten_cons, List.flatten_nil, List.append_nil]); omega) _) (fun v' σ' hR => ?_)
    obtain ⟨rfl, rfl⟩ := hR
    simp only [go_sem, Nat.reduceAdd, Nat.reduceEqDiff, Nat.reduceLeDiff, true_and, List.length_map, len_row, one_row, A.enc_one, A.enc_len, pb_geta, pb_geta0, pb_seta, pb_seta0, pb_len, bs_size, NodeM.enc, EqM.enc, VarM.enc, A.eqc_get128, List.drop_succ_cons, List.drop_zero, A.enc_get47, row3_51]
    refine hK _ _ fun env' hw => ?_
    simp only [setL_cons, setL_nil, List.set_cons_zero, List.set_cons_succ] at hw
    refine hK3 _ _ (AW.weaken hw ?_); clear hw; try clear hK3 K3
    refine AW.regl false [] (by rfl) fun K5 hK5 => ?_ -- region 4
    simp only [go_sem, Nat.reduceAdd, Nat.reduceEqDiff, Nat.reduceLeDiff, true_and, List.length_map, len_row, one_row, A.enc_one, A.enc_len, pb_geta, pb_geta0, pb_seta, pb_seta0, pb_len, bs_size, NodeM.enc, EqM.enc, VarM.enc, A.eqc_get128, List.drop_succ_cons, List.drop_zero, A.enc_get47]
    refine sC.ofR en34 (put_at ho true _ [[108, 101, 116, 10]] (by simp) (by simp) (by (try simp only [List.length_append, List.length_cons, List.length_nil, List.flatten_cons, List.flatten_nil, List.append_nil]); omega) _) (fun v' σ' hR => ?_)
    obtain ⟨rfl, rfl⟩ := hR
    simp only [go_sem, Nat.reduceAdd, Nat.reduceEqDiff, Nat.reduceLeDiff, true_and, List.length_map, len_row, one_row, A.enc_one, A.enc_len, pb_geta, pb_geta0, pb_seta, pb_seta0, pb_len, bs_size, NodeM.enc, EqM.enc, VarM.enc, A.eqc_get128, List.drop_succ_cons, List.drop_zero, A.enc_get47]
    refine hK5 _ _ ?_; try clear hK5 K5
    conv => enter [5]; simp only [setL_cons, setL_nil, List.set_cons_zero, List.set_cons_succ]
    refine AW.seq_k fun K6 hK6 => ?_
    refine AW.regl false [32, 33, 34] (by rfl) fun K7 hK7 => ?_ -- region 5
    simp only [go_sem, Nat.reduceAdd, Nat.reduceEqDiff, Nat.reduceLeDiff, true_and, List.length_map, len_row, one_row, A.enc_one, A.enc_len, pb_geta, pb_geta0, pb_seta, pb_seta0, pb_len, bs_size, NodeM.enc, EqM.enc, VarM.enc, A.eqc_get128, List.drop_succ_cons, List.drop_zero, A.enc_get47]
    refine hK7 _ _ ?_; try clear hK7 K7
    conv => enter [5]; simp only [setL_cons, setL_nil, List.set_cons_zero, List.set_cons_succ]
    refine AW.block ?_
    refine AW.loop_dr (α := Nat) (fun i => [(.ref o 0), .any, .any, .any, .any, .any, .any, .any, .any, .any, .any, .any, .any, .any, .any, .any, .any, .any, .any, .any, .any, .any, .any, .any, .any, .any, .any, .any, .any, .any, .any, .any, (rowAV 6 n.nlE (n.eqs.map EqM.enc)), (.val (.int .i64 ((n.eqs.length : Nat) : Int))), (.val (.int .i64 ((i : Nat) : Int))), .any, .any, .any, .any, .any, .any, .any, .any, .any, .any, .any, .any, .any, .any, .any, .any, .any, .any, .any, .any, .any, .any, .any, .any, .any, .any, .any, .any]) (fun i => pb σ o true (t ++ (nodeH n ++ ((n.eqs.map eqT).take i).flatten)) ++ [.cells [str n.name, rowAV 2 n.nlI (n.ins.map VarM.enc), rowAV 2 n.nlO (n.outs.map VarM.enc), rowAV 2 n.nlL (n.locals.map VarM.enc), rowAV 6 n.nlE (n.eqs.map EqM.enc)]]) (fun i => n.eqs.length - i) (fun i => i ≤ n.eqs.length) 0 ?_ ?_ ?_
    · exact ⟨Nat.zero_le _, by simp [Wk], by simp [nodeH, hloc]⟩
    · exact fun y _ => ⟨by simp only [belL, AV.bel, Bool.and_true, Bool.true_and, Bool.and_eq_true, decide_eq_true_eq]; and_intros <;> first | exact row_belA (eqs_bel _ _) | (simp [pb_len]; omega), fun j a h => pb_keepL ho (by simp [pb_len]) _ j a h⟩
    · intro i hi
      refine AW.regl false [35] (by rfl) fun K8 hK8 => ?_ -- region 6
      simp only [go_sem, Nat.reduceAdd, Nat.reduceEqDiff, Nat.reduceLeDiff, true_and, List.length_map, len_row, one_row, A.enc_one, A.enc_len, pb_geta, pb_geta0, pb_seta, pb_seta0, pb_len, bs_size, NodeM.enc, EqM.enc, VarM.enc, A.eqc_get128, List.drop_succ_cons, List.drop_zero, A.enc_get47]
      refine hK8 _ _ ?_; try clear hK8 K8
      conv => enter [5]; simp only [setL_cons, setL_nil, List.set_cons_zero, List.set_cons_succ]
      refine AW.seq_k fun K9 hK9 => ?_
      refine AW.cond rfl (fun hc35 => ?_) (fun hc35 => ?_)
      · skip
        have hi1 : i < n.eqs.length := by simpa using hc35
        have hx : (n.eqs.map EqM.enc)[i]? = some (EqM.enc (n.eqs[i])) := by rw [List.getElem?_map, List.getElem?_eq_getElem hi1]; rfl
        have hii : i < (n.eqs.map eqT).length := by simpa using hi1
        have hfl := flat_succ hii
        have hgi : (n.eqs.map eqT)[i] = eqT n.eqs[i] := by simp
        have hfi := flat_le (n.eqs.map eqT) (i + 1)
        rw [hfl, hgi] at hfi
        obtain ⟨⟨hq1, hq2⟩, hq3, hq4⟩ := eq_right (heq _ (List.getElem_mem hi1))
        have hnl := names_le hq3
        have hek := expr_ok (w := w) _ hq4 (hg _ (List.getElem_mem hi1))
        have hA1 : aBin prog .add 9 (str ⟨#[40]⟩) (str (bs (sepC.intercalate (n.eqs[i].lhs.map (·.data.toList))))) = some (str (bs (40 :: sepC.intercalate (n.eqs[i].lhs.map (·.data.toList))))) := by
          rw [show (40 :: sepC.intercalate (n.eqs[i].lhs.map (·.data.toList)) : List UInt8) = [40] ++ sepC.intercalate (n.eqs[i].lhs.map (·.data.toList)) from rfl]
          exact addS 9 (a := [40]) (show _ ≤ 140737488355328 by simp; omega)
        have hA2 : aBin prog .add 9 (str (bs (40 :: sepC.intercalate (n.eqs[i].lhs.map (·.data.toList))))) (str ⟨#[41]⟩) = some (str (bs (40 :: (sepC.intercalate (n.eqs[i].lhs.map (·.data.toList)) ++ [41])))) := by
          rw [show (40 :: (sepC.intercalate (n.eqs[i].lhs.map (·.data.toList)) ++ [41]) : List UInt8) = (40 :: sepC.intercalate (n.eqs[i].lhs.map (·.data.toList))) ++ [41] from rfl]
          exact addS 9 (b := [41]) (show _ ≤ 140737488355328 by simp; omega)
        simp only [eqT, List.length_append, List.length_cons, List.length_nil] at hfi
        refine AW.skip ?_
        refine hK9 _ _ ?_; try clear hK9 K9
        refine AW.seq_k fun K10 hK10 => ?_
        refine AW.block ?_
        refine AW.regl false [5] (by rfl) fun K11 hK11 => ?_ -- region 7
        simp only [go_sem, Nat.reduceAdd, Nat.reduceEqDiff, Nat.reduceLeDiff, true_and, List.length_map, len_row, one_row, A.enc_one, A.enc_len, pb_geta, pb_geta0, pb_seta, pb_seta0, pb_len, bs_size, NodeM.enc, EqM.enc, VarM.enc, A.eqc_get128, List.drop_succ_cons, List.drop_zero, A.enc_get47, at_row hx]
        refine hK11 _ _ ?_; try clear hK11 K11
        conv => enter [5]; simp only [setL_cons, setL_nil, List.set_cons_zero, List.set_cons_succ, upd_none, upd_at]
        refine AW.regl false [6] (by rfl) fun K12 hK12 => ?_ -- region 8
        simp only [go_sem, Nat.reduceAdd, Nat.reduceEqDiff, Nat.reduceLeDiff, true_and, List.length_map, len_row, one_row, A.enc_one, A.enc_len, pb_geta, pb_geta0, pb_seta, pb_seta0, pb_len, bs_size, NodeM.enc, EqM.enc, VarM.enc, A.eqc_get128, List.drop_succ_cons, List.drop_zero, A.enc_get47]
        refine sC.of en36 ((joinq n.eqs[i].nl n.eqs[i].lhs sepC (by omega) (by omega)).on _).here (by rfl) ?_
        simp only [go_sem, Nat.reduceAdd, Nat.reduceEqDiff, Nat.reduceLeDiff, true_and, List.length_map, len_row, one_row, A.enc_one, A.enc_len, pb_geta, pb_geta0, pb_seta, pb_seta0, pb_len, bs_size, NodeM.enc, EqM.enc, VarM.enc, A.eqc_get128, List.drop_succ_cons, List.drop_zero, A.enc_get47]
        refine hK12 _ _ ?_; try clear hK12 K12
        conv => enter [5]; simp only [setL_cons, setL_nil, List.set_cons_zero, List.set_cons_succ]
        refine AW.seq_k fun K13 hK13 => ?_
        refine AW.regl false [44] (by rfl) fun K14 hK14 => ?_ -- region 9
        simp only [go_sem, Nat.reduceAdd, Nat.reduceEqDiff, Nat.reduceLeDiff, true_and, List.length_map, len_row, one_row, A.enc_one, A.enc_len, pb_geta, pb_geta0, pb_seta, pb_seta0, pb_len, bs_size, NodeM.enc, EqM.enc, VarM.enc, A.eqc_get128, List.drop_succ_cons, List.drop_zero, A.enc_get47]
        refine hK14 _ _ ?_; try clear hK14 K14
        conv => enter [5]; simp only [setL_cons, setL_nil, List.set_cons_zero, List.set_cons_succ]
        refine AW.cond rfl (fun hc44 => ?_) (fun hc44 => ?_)
        · skip
          have hL : lhsT n.eqs[i].lhs = 40 :: (sepC.intercalate (n.eqs[i].lhs.map (·.data.toList)) ++ [41]) := by unfold lhsT; rw [if_pos (by have h := hc44; simp at h; omega)]; simp
          rw [hL] at hfi
          simp only [List.length_append, List.length_cons, List.length_nil] at hfi
          refine AW.lastl false [6] (by rfl) fun K hK => ?_ -- region 10
          simp only [go_sem, Nat.reduceAdd, Nat.reduceEqDiff, Nat.reduceLeDiff, true_and, List.length_map, len_row, one_row, A.enc_one, A.enc_len, pb_geta, pb_geta0, pb_seta, pb_seta0, pb_len, bs_size, NodeM.enc, EqM.enc, VarM.enc, A.eqc_get128, List.drop_succ_cons, List.drop_zero, A.enc_get47, hA1, hA2]
          refine hK _ _ fun env' hw => ?_
          simp only [setL_cons, setL_nil, List.set_cons_zero, List.set_cons_succ] at hw
          refine hK13 _ _ (AW.weaken hw ?_); clear hw; try clear hK13 K13
          refine AW.regl false [] (by rfl) fun K15 hK15 => ?_ -- region 11
          simp only [go_sem, Nat.reduceAdd, Nat.reduceEqDiff, Nat.reduceLeDiff, true_and, List.length_map, len_row, one_row, A.enc_one, A.enc_len, pb_geta, pb_geta0, pb_seta, pb_seta0, pb_len, bs_size, NodeM.enc, EqM.enc, VarM.enc, A.eqc_get128, List.drop_succ_cons, List.drop_zero, A.enc_get47, row3_51]
          refine sC.ofR en34 (put_at ho true _ [[32, 32], _, [32, 61, 32]] (by simp) (by simp) (by (try simp only [List.length_append, List.length_cons, List.length_nil, List.flatten_cons, List.flatten_nil, List.append_nil]); omega) _) (fun v' σ' hR => ?_)
          obtain ⟨rfl, rfl⟩ := hR
          simp only [go_sem, Nat.reduceAdd, Nat.reduceEqDiff, Nat.reduceLeDiff, true_and, List.length_map, len_row, one_row, A.enc_one, A.enc_len, pb_geta, pb_geta0, pb_seta, pb_seta0, pb_len, bs_size, NodeM.enc, EqM.enc, VarM.enc, A.eqc_get128, List.drop_succ_cons, List.drop_zero, A.enc_get47, row3_51]
          refine hK15 _ _ ?_; try clear hK15 K15
          conv => enter [5]; simp only [setL_cons, setL_nil, List.set_cons_zero, List.set_cons_succ]
          refine AW.regl false [] (by rfl) fun K16 hK16 => ?_ -- region 12
          simp only [go_sem, Nat.reduceAdd, Nat.reduceEqDiff, Nat.reduceLeDiff, true_and, List.length_map, len_row, one_row, A.enc_one, A.enc_len, pb_geta, pb_geta0, pb_seta, pb_seta0, pb_len, bs_size, NodeM.enc, EqM.enc, VarM.enc, A.eqc_get128, List.drop_succ_cons, List.drop_zero, A.enc_get47]
          refine sC.ofR en29 (expr_at hek ho true _ (by (try simp only [List.length_append, List.length_cons, List.length_nil, List.flatten_cons, List.flatten_nil, List.append_nil]); omega) _) (fun v' σ' hR => ?_)
          obtain ⟨rfl, rfl⟩ := hR
          simp only [go_sem, Nat.reduceAdd, Nat.reduceEqDiff, Nat.reduceLeDiff, true_and, List.length_map, len_row, one_row, A.enc_one, A.enc_len, pb_geta, pb_geta0, pb_seta, pb_seta0, pb_len, bs_size, NodeM.enc, EqM.enc, VarM.enc, A.eqc_get128, List.drop_succ_cons, List.drop_zero, A.enc_get47]
          refine hK16 _ _ ?_; try clear hK16 K16
          conv => enter [5]; simp only [setL_cons, setL_nil, List.set_cons_zero, List.set_cons_succ]
          refine AW.lastl false [] (by rfl) fun K hK => ?_ -- region 13
          simp only [go_sem, Nat.reduceAdd, Nat.reduceEqDiff, Nat.reduceLeDiff, true_and, List.length_map, len_row, one_row, A.enc_one, A.enc_len, pb_geta, pb_geta0, pb_seta, pb_seta0, pb_len, bs_size, NodeM.enc, EqM.enc, VarM.enc, A.eqc_get128, List.drop_succ_cons, List.drop_zero, A.enc_get47]
          refine sC.ofR en34 (put_at ho true _ [[59, 10]] (by simp) (by simp) (by (try simp only [List.length_append, List.length_cons, List.length_nil, List.flatten_cons, List.flatten_nil, List.append_nil]); omega) _) (fun v' σ' hR => ?_)
          obtain ⟨rfl, rfl⟩ := hR
          simp only [go_sem, Nat.reduceAdd, Nat.reduceEqDiff, Nat.reduceLeDiff, true_and, List.length_map, len_row, one_row, A.enc_one, A.enc_len, pb_geta, pb_geta0, pb_seta, pb_seta0, pb_len, bs_size, NodeM.enc, EqM.enc, VarM.enc, A.eqc_get128, List.drop_succ_cons, List.drop_zero, A.enc_get47]
          refine hK _ _ fun env' hw => ?_
          simp only [setL_cons, setL_nil, List.set_cons_zero, List.set_cons_succ] at hw
          refine hK10 _ _ (AW.weaken hw ?_); clear hw; try clear hK10 K10
          refine AW.lastl false [34] (by rfl) fun K hK => ?_ -- region 14
          simp only [go_sem, Nat.reduceAdd, Nat.reduceEqDiff, Nat.reduceLeDiff, true_and, List.length_map, len_row, one_row, A.enc_one, A.enc_len, pb_geta, pb_geta0, pb_seta, pb_seta0, pb_len, bs_size, NodeM.enc, EqM.enc, VarM.enc, A.eqc_get128, List.drop_succ_cons, List.drop_zero, A.enc_get47]
          refine hK _ _ fun env' hw => ?_
          simp only [setL_cons, setL_nil, List.set_cons_zero, List.set_cons_succ] at hw
          refine ⟨i + 1, by omega, by omega, ?_, ?_⟩
          · refine hw.trans ?_
            simp [Wk, wrap_succ hi1 hl0]
          · rw [hfl, hgi]
            simp [List.take_append, List.take_of_length_le, pb_len, eqT, hL]
        · skip
          have hL : lhsT n.eqs[i].lhs = sepC.intercalate (n.eqs[i].lhs.map (·.data.toList)) := by unfold lhsT; rw [if_neg (by have h := hc44; simp at h; omega)]
          rw [hL] at hfi
          refine AW.skip ?_
          refine hK13 _ _ ?_; try clear hK13 K13
          refine AW.regl false [] (by rfl) fun K17 hK17 => ?_ -- region 11
          simp only [go_sem, Nat.reduceAdd, Nat.reduceEqDiff, Nat.reduceLeDiff, true_and, List.length_map, len_row, one_row, A.enc_one, A.enc_len, pb_geta, pb_geta0, pb_seta, pb_seta0, pb_len, bs_size, NodeM.enc, EqM.enc, VarM.enc, A.eqc_get128, List.drop_succ_cons, List.drop_zero, A.enc_get47, row3_51]
          refine sC.ofR en34 (put_at ho true _ [[32, 32], _, [32, 61, 32]] (by simp) (by simp) (by (try simp only [List.length_append, List.length_cons, List.length_nil, List.flatten_cons, List.flatten_nil, List.append_nil]); omega) _) (fun v' σ' hR => ?_)
          obtain ⟨rfl, rfl⟩ := hR
          simp only [go_sem, Nat.reduceAdd, Nat.reduceEqDiff, Nat.reduceLeDiff, true_and, List.length_map, len_row, one_row, A.enc_one, A.enc_len, pb_geta, pb_geta0, pb_seta, pb_seta0, pb_len, bs_size, NodeM.enc, EqM.enc, VarM.enc, A.eqc_get128, List.drop_succ_cons, List.drop_zero, A.enc_get47, row3_51]
          refine hK17 _ _ ?_; try clear hK17 K17
          conv => enter [5]; simp only [setL_cons, setL_nil, List.set_cons_zero, List.set_cons_succ]
          refine AW.regl false [] (by rfl) fun K18 hK18 => ?_ -- region 12
          simp only [go_sem, Nat.reduceAdd, Nat.reduceEqDiff, Nat.reduceLeDiff, true_and, List.length_map, len_row, one_row, A.enc_one, A.enc_len, pb_geta, pb_geta0, pb_seta, pb_seta0, pb_len, bs_size, NodeM.enc, EqM.enc, VarM.enc, A.eqc_get128, List.drop_succ_cons, List.drop_zero, A.enc_get47]
          refine sC.ofR en29 (expr_at hek ho true _ (by (try simp only [List.length_append, List.length_cons, List.length_nil, List.flatten_cons, List.flatten_nil, List.append_nil]); omega) _) (fun v' σ' hR => ?_)
          obtain ⟨rfl, rfl⟩ := hR
          simp only [go_sem, Nat.reduceAdd, Nat.reduceEqDiff, Nat.reduceLeDiff, true_and, List.length_map, len_row, one_row, A.enc_one, A.enc_len, pb_geta, pb_geta0, pb_seta, pb_seta0, pb_len, bs_size, NodeM.enc, EqM.enc, VarM.enc, A.eqc_get128, List.drop_succ_cons, List.drop_zero, A.enc_get47]
          refine hK18 _ _ ?_; try clear hK18 K18
          conv => enter [5]; simp only [setL_cons, setL_nil, List.set_cons_zero, List.set_cons_succ]
          refine AW.lastl false [] (by rfl) fun K hK => ?_ -- region 13
          simp only [go_sem, Nat.reduceAdd, Nat.reduceEqDiff, Nat.reduceLeDiff, true_and, List.length_map, len_row, one_row, A.enc_one, A.enc_len, pb_geta, pb_geta0, pb_seta, pb_seta0, pb_len, bs_size, NodeM.enc, EqM.enc, VarM.enc, A.eqc_get128, List.drop_succ_cons, List.drop_zero, A.enc_get47]
          refine sC.ofR en34 (put_at ho true _ [[59, 10]] (by simp) (by simp) (by (try simp only [List.length_append, List.length_cons, List.length_nil, List.flatten_cons, List.flatten_nil, List.append_nil]); omega) _) (fun v' σ' hR => ?_)
          obtain ⟨rfl, rfl⟩ := hR
          simp only [go_sem, Nat.reduceAdd, Nat.reduceEqDiff, Nat.reduceLeDiff, true_and, List.length_map, len_row, one_row, A.enc_one, A.enc_len, pb_geta, pb_geta0, pb_seta, pb_seta0, pb_len, bs_size, NodeM.enc, EqM.enc, VarM.enc, A.eqc_get128, List.drop_succ_cons, List.drop_zero, A.enc_get47]
          refine hK _ _ fun env' hw => ?_
          simp only [setL_cons, setL_nil, List.set_cons_zero, List.set_cons_succ] at hw
          refine hK10 _ _ (AW.weaken hw ?_); clear hw; try clear hK10 K10
          refine AW.lastl false [34] (by rfl) fun K hK => ?_ -- region 14
          simp only [go_sem, Nat.reduceAdd, Nat.reduceEqDiff, Nat.reduceLeDiff, true_and, List.length_map, len_row, one_row, A.enc_one, A.enc_len, pb_geta, pb_geta0, pb_seta, pb_seta0, pb_len, bs_size, NodeM.enc, EqM.enc, VarM.enc, A.eqc_get128, List.drop_succ_cons, List.drop_zero, A.enc_get47]
          refine hK _ _ fun env' hw => ?_
          simp only [setL_cons, setL_nil, List.set_cons_zero, List.set_cons_succ] at hw
          refine ⟨i + 1, by omega, by omega, ?_, ?_⟩
          · refine hw.trans ?_
            simp [Wk, wrap_succ hi1 hl0]
          · rw [hfl, hgi]
            simp [List.take_append, List.take_of_length_le, pb_len, eqT, hL]
      · skip
        have hi1 : i = n.eqs.length := by
          have : ¬ i < n.eqs.length := by simpa using hc35
          omega
        rw [hi1, show (n.eqs.map eqT).take n.eqs.length = n.eqs.map eqT from List.take_of_length_le (by simp)]
        refine AW.exit ?_
        refine hK6 _ _ ?_; try clear hK6 K6
        refine AW.lastl false [] (by rfl) fun K hK => ?_ -- region 15
        simp only [go_sem, Nat.reduceAdd, Nat.reduceEqDiff, Nat.reduceLeDiff, true_and, List.length_map, len_row, one_row, A.enc_one, A.enc_len, pb_geta, pb_geta0, pb_seta, pb_seta0, pb_len, bs_size, NodeM.enc, EqM.enc, VarM.enc, A.eqc_get128, List.drop_succ_cons, List.drop_zero, A.enc_get47]
        refine sC.ofR en34 (put_at ho true _ [[116, 101, 108, 10]] (by simp) (by simp) (by (try simp only [List.length_append, List.length_cons, List.length_nil, List.flatten_cons, List.flatten_nil, List.append_nil]); omega) _) (fun v' σ' hR => ?_)
        obtain ⟨rfl, rfl⟩ := hR
        simp only [go_sem, Nat.reduceAdd, Nat.reduceEqDiff, Nat.reduceLeDiff, true_and, List.length_map, len_row, one_row, A.enc_one, A.enc_len, pb_geta, pb_geta0, pb_seta, pb_seta0, pb_len, bs_size, NodeM.enc, EqM.enc, VarM.enc, A.eqc_get128, List.drop_succ_cons, List.drop_zero, A.enc_get47]
        refine hK _ _ fun env' hw => ?_
        simp only [setL_cons, setL_nil, List.set_cons_zero, List.set_cons_succ] at hw
        exact ⟨.inl rfl, _, rfl, _, _, rfl, by simp only [pb_len], fun j a h => pb_keep2 ho j a h, rfl, ⟨rfl, congrArg (pb σ o true) (by simp [nodeT])⟩⟩
  · skip
    have hloc : ¬ n.locals.length > 0 := by simpa using hc21
    rw [if_neg hloc] at hf2
    refine AW.skip ?_
    refine hK3 _ _ ?_; try clear hK3 K3
    refine AW.regl false [] (by rfl) fun K19 hK19 => ?_ -- region 4
    simp only [go_sem, Nat.reduceAdd, Nat.reduceEqDiff, Nat.reduceLeDiff, true_and, List.length_map, len_row, one_row, A.enc_one, A.enc_len, pb_geta, pb_geta0, pb_seta, pb_seta0, pb_len, bs_size, NodeM.enc, EqM.enc, VarM.enc, A.eqc_get128, List.drop_succ_cons, List.drop_zero, A.enc_get47]
    refine sC.ofR en34 (put_at ho true _ [[108, 101, 116, 10]] (by simp) (by simp) (by (try simp only [List.length_append, List.length_cons, List.length_nil, List.flatten_cons, List.flatten_nil, List.append_nil]); omega) _) (fun v' σ' hR => ?_)
    obtain ⟨rfl, rfl⟩ := hR
    simp only [go_sem, Nat.reduceAdd, Nat.reduceEqDiff, Nat.reduceLeDiff, true_and, List.length_map, len_row, one_row, A.enc_one, A.enc_len, pb_geta, pb_geta0, pb_seta, pb_seta0, pb_len, bs_size, NodeM.enc, EqM.enc, VarM.enc, A.eqc_get128, List.drop_succ_cons, List.drop_zero, A.enc_get47]
    refine hK19 _ _ ?_; try clear hK19 K19
    conv => enter [5]; simp only [setL_cons, setL_nil, List.set_cons_zero, List.set_cons_succ]
    refine AW.seq_k fun K20 hK20 => ?_
    refine AW.regl false [32, 33, 34] (by rfl) fun K21 hK21 => ?_ -- region 5
    simp only [go_sem, Nat.reduceAdd, Nat.reduceEqDiff, Nat.reduceLeDiff, true_and, List.length_map, len_row, one_row, A.enc_one, A.enc_len, pb_geta, pb_geta0, pb_seta, pb_seta0, pb_len, bs_size, NodeM.enc, EqM.enc, VarM.enc, A.eqc_get128, List.drop_succ_cons, List.drop_zero, A.enc_get47]
    refine hK21 _ _ ?_; try clear hK21 K21
    conv => enter [5]; simp only [setL_cons, setL_nil, List.set_cons_zero, List.set_cons_succ]
    refine AW.block ?_
    refine AW.loop_dr (α := Nat) (fun i => [(.ref o 0), .any, .any, .any, .any, .any, .any, .any, .any, .any, .any, .any, .any, .any, .any, .any, .any, .any, .any, .any, .any, .any, .any, .any, .any, .any, .any, .any, .any, .any, .any, .any, (rowAV 6 n.nlE (n.eqs.map EqM.enc)), (.val (.int .i64 ((n.eqs.length : Nat) : Int))), (.val (.int .i64 ((i : Nat) : Int))), .any, .any, .any, .any, .any, .any, .any, .any, .any, .any, .any, .any, .any, .any, .any, .any, .any, .any, .any, .any, .any, .any, .any, .any, .any, .any, .any, .any]) (fun i => pb σ o true (t ++ (nodeH n ++ ((n.eqs.map eqT).take i).flatten)) ++ [.cells [str n.name, rowAV 2 n.nlI (n.ins.map VarM.enc), rowAV 2 n.nlO (n.outs.map VarM.enc), rowAV 2 n.nlL (n.locals.map VarM.enc), rowAV 6 n.nlE (n.eqs.map EqM.enc)]]) (fun i => n.eqs.length - i) (fun i => i ≤ n.eqs.length) 0 ?_ ?_ ?_
    · exact ⟨Nat.zero_le _, by simp [Wk], by simp [nodeH, hloc]⟩
    · exact fun y _ => ⟨by simp only [belL, AV.bel, Bool.and_true, Bool.true_and, Bool.and_eq_true, decide_eq_true_eq]; and_intros <;> first | exact row_belA (eqs_bel _ _) | (simp [pb_len]; omega), fun j a h => pb_keepL ho (by simp [pb_len]) _ j a h⟩
    · intro i hi
      refine AW.regl false [35] (by rfl) fun K22 hK22 => ?_ -- region 6
      simp only [go_sem, Nat.reduceAdd, Nat.reduceEqDiff, Nat.reduceLeDiff, true_and, List.length_map, len_row, one_row, A.enc_one, A.enc_len, pb_geta, pb_geta0, pb_seta, pb_seta0, pb_len, bs_size, NodeM.enc, EqM.enc, VarM.enc, A.eqc_get128, List.drop_succ_cons, List.drop_zero, A.enc_get47]
      refine hK22 _ _ ?_; try clear hK22 K22
      conv => enter [5]; simp only [setL_cons, setL_nil, List.set_cons_zero, List.set_cons_succ]
      refine AW.seq_k fun K23 hK23 => ?_
      refine AW.cond rfl (fun hc35 => ?_) (fun hc35 => ?_)
      · skip
        have hi1 : i < n.eqs.length := by simpa using hc35
        have hx : (n.eqs.map EqM.enc)[i]? = some (EqM.enc (n.eqs[i])) := by rw [List.getElem?_map, List.getElem?_eq_getElem hi1]; rfl
        have hii : i < (n.eqs.map eqT).length := by simpa using hi1
        have hfl := flat_succ hii
        have hgi : (n.eqs.map eqT)[i] = eqT n.eqs[i] := by simp
        have hfi := flat_le (n.eqs.map eqT) (i + 1)
        rw [hfl, hgi] at hfi
        obtain ⟨⟨hq1, hq2⟩, hq3, hq4⟩ := eq_right (heq _ (List.getElem_mem hi1))
        have hnl := names_le hq3
        have hek := expr_ok (w := w) _ hq4 (hg _ (List.getElem_mem hi1))
        have hA1 : aBin prog .add 9 (str ⟨#[40]⟩) (str (bs (sepC.intercalate (n.eqs[i].lhs.map (·.data.toList))))) = some (str (bs (40 :: sepC.intercalate (n.eqs[i].lhs.map (·.data.toList))))) := by
          rw [show (40 :: sepC.intercalate (n.eqs[i].lhs.map (·.data.toList)) : List UInt8) = [40] ++ sepC.intercalate (n.eqs[i].lhs.map (·.data.toList)) from rfl]
          exact addS 9 (a := [40]) (show _ ≤ 140737488355328 by simp; omega)
        have hA2 : aBin prog .add 9 (str (bs (40 :: sepC.intercalate (n.eqs[i].lhs.map (·.data.toList))))) (str ⟨#[41]⟩) = some (str (bs (40 :: (sepC.intercalate (n.eqs[i].lhs.map (·.data.toList)) ++ [41])))) := by
          rw [show (40 :: (sepC.intercalate (n.eqs[i].lhs.map (·.data.toList)) ++ [41]) : List UInt8) = (40 :: sepC.intercalate (n.eqs[i].lhs.map (·.data.toList))) ++ [41] from rfl]
          exact addS 9 (b := [41]) (show _ ≤ 140737488355328 by simp; omega)
        simp only [eqT, List.length_append, List.length_cons, List.length_nil] at hfi
        refine AW.skip ?_
        refine hK23 _ _ ?_; try clear hK23 K23
        refine AW.seq_k fun K24 hK24 => ?_
        refine AW.block ?_
        refine AW.regl false [5] (by rfl) fun K25 hK25 => ?_ -- region 7
        simp only [go_sem, Nat.reduceAdd, Nat.reduceEqDiff, Nat.reduceLeDiff, true_and, List.length_map, len_row, one_row, A.enc_one, A.enc_len, pb_geta, pb_geta0, pb_seta, pb_seta0, pb_len, bs_size, NodeM.enc, EqM.enc, VarM.enc, A.eqc_get128, List.drop_succ_cons, List.drop_zero, A.enc_get47, at_row hx]
        refine hK25 _ _ ?_; try clear hK25 K25
        conv => enter [5]; simp only [setL_cons, setL_nil, List.set_cons_zero, List.set_cons_succ, upd_none, upd_at]
        refine AW.regl false [6] (by rfl) fun K26 hK26 => ?_ -- region 8
        simp only [go_sem, Nat.reduceAdd, Nat.reduceEqDiff, Nat.reduceLeDiff, true_and, List.length_map, len_row, one_row, A.enc_one, A.enc_len, pb_geta, pb_geta0, pb_seta, pb_seta0, pb_len, bs_size, NodeM.enc, EqM.enc, VarM.enc, A.eqc_get128, List.drop_succ_cons, List.drop_zero, A.enc_get47]
        refine sC.of en36 ((joinq n.eqs[i].nl n.eqs[i].lhs sepC (by omega) (by omega)).on _).here (by rfl) ?_
        simp only [go_sem, Nat.reduceAdd, Nat.reduceEqDiff, Nat.reduceLeDiff, true_and, List.length_map, len_row, one_row, A.enc_one, A.enc_len, pb_geta, pb_geta0, pb_seta, pb_seta0, pb_len, bs_size, NodeM.enc, EqM.enc, VarM.enc, A.eqc_get128, List.drop_succ_cons, List.drop_zero, A.enc_get47]
        refine hK26 _ _ ?_; try clear hK26 K26
        conv => enter [5]; simp only [setL_cons, setL_nil, List.set_cons_zero, List.set_cons_succ]
        refine AW.seq_k fun K27 hK27 => ?_
        refine AW.regl false [44] (by rfl) fun K28 hK28 => ?_ -- region 9
        simp only [go_sem, Nat.reduceAdd, Nat.reduceEqDiff, Nat.reduceLeDiff, true_and, List.length_map, len_row, one_row, A.enc_one, A.enc_len, pb_geta, pb_geta0, pb_seta, pb_seta0, pb_len, bs_size, NodeM.enc, EqM.enc, VarM.enc, A.eqc_get128, List.drop_succ_cons, List.drop_zero, A.enc_get47]
        refine hK28 _ _ ?_; try clear hK28 K28
        conv => enter [5]; simp only [setL_cons, setL_nil, List.set_cons_zero, List.set_cons_succ]
        refine AW.cond rfl (fun hc44 => ?_) (fun hc44 => ?_)
        · skip
          have hL : lhsT n.eqs[i].lhs = 40 :: (sepC.intercalate (n.eqs[i].lhs.map (·.data.toList)) ++ [41]) := by unfold lhsT; rw [if_pos (by have h := hc44; simp at h; omega)]; simp
          rw [hL] at hfi
          simp only [List.length_append, List.length_cons, List.length_nil] at hfi
          refine AW.lastl false [6] (by rfl) fun K hK => ?_ -- region 10
          simp only [go_sem, Nat.reduceAdd, Nat.reduceEqDiff, Nat.reduceLeDiff, true_and, List.length_map, len_row, one_row, A.enc_one, A.enc_len, pb_geta, pb_geta0, pb_seta, pb_seta0, pb_len, bs_size, NodeM.enc, EqM.enc, VarM.enc, A.eqc_get128, List.drop_succ_cons, List.drop_zero, A.enc_get47, hA1, hA2]
          refine hK _ _ fun env' hw => ?_
          simp only [setL_cons, setL_nil, List.set_cons_zero, List.set_cons_succ] at hw
          refine hK27 _ _ (AW.weaken hw ?_); clear hw; try clear hK27 K27
          refine AW.regl false [] (by rfl) fun K29 hK29 => ?_ -- region 11
          simp only [go_sem, Nat.reduceAdd, Nat.reduceEqDiff, Nat.reduceLeDiff, true_and, List.length_map, len_row, one_row, A.enc_one, A.enc_len, pb_geta, pb_geta0, pb_seta, pb_seta0, pb_len, bs_size, NodeM.enc, EqM.enc, VarM.enc, A.eqc_get128, List.drop_succ_cons, List.drop_zero, A.enc_get47, row3_51]
          refine sC.ofR en34 (put_at ho true _ [[32, 32], _, [32, 61, 32]] (by simp) (by simp) (by (try simp only [List.length_append, List.length_cons, List.length_nil, List.flatten_cons, List.flatten_nil, List.append_nil]); omega) _) (fun v' σ' hR => ?_)
          obtain ⟨rfl, rfl⟩ := hR
          simp only [go_sem, Nat.reduceAdd, Nat.reduceEqDiff, Nat.reduceLeDiff, true_and, List.length_map, len_row, one_row, A.enc_one, A.enc_len, pb_geta, pb_geta0, pb_seta, pb_seta0, pb_len, bs_size, NodeM.enc, EqM.enc, VarM.enc, A.eqc_get128, List.drop_succ_cons, List.drop_zero, A.enc_get47, row3_51]
          refine hK29 _ _ ?_; try clear hK29 K29
          conv => enter [5]; simp only [setL_cons, setL_nil, List.set_cons_zero, List.set_cons_succ]
          refine AW.regl false [] (by rfl) fun K30 hK30 => ?_ -- region 12
          simp only [go_sem, Nat.reduceAdd, Nat.reduceEqDiff, Nat.reduceLeDiff, true_and, List.length_map, len_row, one_row, A.enc_one, A.enc_len, pb_geta, pb_geta0, pb_seta, pb_seta0, pb_len, bs_size, NodeM.enc, EqM.enc, VarM.enc, A.eqc_get128, List.drop_succ_cons, List.drop_zero, A.enc_get47]
          refine sC.ofR en29 (expr_at hek ho true _ (by (try simp only [List.length_append, List.length_cons, List.length_nil, List.flatten_cons, List.flatten_nil, List.append_nil]); omega) _) (fun v' σ' hR => ?_)
          obtain ⟨rfl, rfl⟩ := hR
          simp only [go_sem, Nat.reduceAdd, Nat.reduceEqDiff, Nat.reduceLeDiff, true_and, List.length_map, len_row, one_row, A.enc_one, A.enc_len, pb_geta, pb_geta0, pb_seta, pb_seta0, pb_len, bs_size, NodeM.enc, EqM.enc, VarM.enc, A.eqc_get128, List.drop_succ_cons, List.drop_zero, A.enc_get47]
          refine hK30 _ _ ?_; try clear hK30 K30
          conv => enter [5]; simp only [setL_cons, setL_nil, List.set_cons_zero, List.set_cons_succ]
          refine AW.lastl false [] (by rfl) fun K hK => ?_ -- region 13
          simp only [go_sem, Nat.reduceAdd, Nat.reduceEqDiff, Nat.reduceLeDiff, true_and, List.length_map, len_row, one_row, A.enc_one, A.enc_len, pb_geta, pb_geta0, pb_seta, pb_seta0, pb_len, bs_size, NodeM.enc, EqM.enc, VarM.enc, A.eqc_get128, List.drop_succ_cons, List.drop_zero, A.enc_get47]
          refine sC.ofR en34 (put_at ho true _ [[59, 10]] (by simp) (by simp) (by (try simp only [List.length_append, List.length_cons, List.length_nil, List.flatten_cons, List.flatten_nil, List.append_nil]); omega) _) (fun v' σ' hR => ?_)
          obtain ⟨rfl, rfl⟩ := hR
          simp only [go_sem, Nat.reduceAdd, Nat.reduceEqDiff, Nat.reduceLeDiff, true_and, List.length_map, len_row, one_row, A.enc_one, A.enc_len, pb_geta, pb_geta0, pb_seta, pb_seta0, pb_len, bs_size, NodeM.enc, EqM.enc, VarM.enc, A.eqc_get128, List.drop_succ_cons, List.drop_zero, A.enc_get47]
          refine hK _ _ fun env' hw => ?_
          simp only [setL_cons, setL_nil, List.set_cons_zero, List.set_cons_succ] at hw
          refine hK24 _ _ (AW.weaken hw ?_); clear hw; try clear hK24 K24
          refine AW.lastl false [34] (by rfl) fun K hK => ?_ -- region 14
          simp only [go_sem, Nat.reduceAdd, Nat.reduceEqDiff, Nat.reduceLeDiff, true_and, List.length_map, len_row, one_row, A.enc_one, A.enc_len, pb_geta, pb_geta0, pb_seta, pb_seta0, pb_len, bs_size, NodeM.enc, EqM.enc, VarM.enc, A.eqc_get128, List.drop_succ_cons, List.drop_zero, A.enc_get47]
          refine hK _ _ fun env' hw => ?_
          simp only [setL_cons, setL_nil, List.set_cons_zero, List.set_cons_succ] at hw
          refine ⟨i + 1, by omega, by omega, ?_, ?_⟩
          · refine hw.trans ?_
            simp [Wk, wrap_succ hi1 hl0]
          · rw [hfl, hgi]
            simp [List.take_append, List.take_of_length_le, pb_len, eqT, hL]
        · skip
          have hL : lhsT n.eqs[i].lhs = sepC.intercalate (n.eqs[i].lhs.map (·.data.toList)) := by unfold lhsT; rw [if_neg (by have h := hc44; simp at h; omega)]
          rw [hL] at hfi
          refine AW.skip ?_
          refine hK27 _ _ ?_; try clear hK27 K27
          refine AW.regl false [] (by rfl) fun K31 hK31 => ?_ -- region 11
          simp only [go_sem, Nat.reduceAdd, Nat.reduceEqDiff, Nat.reduceLeDiff, true_and, List.length_map, len_row, one_row, A.enc_one, A.enc_len, pb_geta, pb_geta0, pb_seta, pb_seta0, pb_len, bs_size, NodeM.enc, EqM.enc, VarM.enc, A.eqc_get128, List.drop_succ_cons, List.drop_zero, A.enc_get47, row3_51]
          refine sC.ofR en34 (put_at ho true _ [[32, 32], _, [32, 61, 32]] (by simp) (by simp) (by (try simp only [List.length_append, List.length_cons, List.length_nil, List.flatten_cons, List.flatten_nil, List.append_nil]); omega) _) (fun v' σ' hR => ?_)
          obtain ⟨rfl, rfl⟩ := hR
          simp only [go_sem, Nat.reduceAdd, Nat.reduceEqDiff, Nat.reduceLeDiff, true_and, List.length_map, len_row, one_row, A.enc_one, A.enc_len, pb_geta, pb_geta0, pb_seta, pb_seta0, pb_len, bs_size, NodeM.enc, EqM.enc, VarM.enc, A.eqc_get128, List.drop_succ_cons, List.drop_zero, A.enc_get47, row3_51]
          refine hK31 _ _ ?_; try clear hK31 K31
          conv => enter [5]; simp only [setL_cons, setL_nil, List.set_cons_zero, List.set_cons_succ]
          refine AW.regl false [] (by rfl) fun K32 hK32 => ?_ -- region 12
          simp only [go_sem, Nat.reduceAdd, Nat.reduceEqDiff, Nat.reduceLeDiff, true_and, List.length_map, len_row, one_row, A.enc_one, A.enc_len, pb_geta, pb_geta0, pb_seta, pb_seta0, pb_len, bs_size, NodeM.enc, EqM.enc, VarM.enc, A.eqc_get128, List.drop_succ_cons, List.drop_zero, A.enc_get47]
          refine sC.ofR en29 (expr_at hek ho true _ (by (try simp only [List.length_append, List.length_cons, List.length_nil, List.flatten_cons, List.flatten_nil, List.append_nil]); omega) _) (fun v' σ' hR => ?_)
          obtain ⟨rfl, rfl⟩ := hR
          simp only [go_sem, Nat.reduceAdd, Nat.reduceEqDiff, Nat.reduceLeDiff, true_and, List.length_map, len_row, one_row, A.enc_one, A.enc_len, pb_geta, pb_geta0, pb_seta, pb_seta0, pb_len, bs_size, NodeM.enc, EqM.enc, VarM.enc, A.eqc_get128, List.drop_succ_cons, List.drop_zero, A.enc_get47]
          refine hK32 _ _ ?_; try clear hK32 K32
          conv => enter [5]; simp only [setL_cons, setL_nil, List.set_cons_zero, List.set_cons_succ]
          refine AW.lastl false [] (by rfl) fun K hK => ?_ -- region 13
          simp only [go_sem, Nat.reduceAdd, Nat.reduceEqDiff, Nat.reduceLeDiff, true_and, List.length_map, len_row, one_row, A.enc_one, A.enc_len, pb_geta, pb_geta0, pb_seta, pb_seta0, pb_len, bs_size, NodeM.enc, EqM.enc, VarM.enc, A.eqc_get128, List.drop_succ_cons, List.drop_zero, A.enc_get47]
          refine sC.ofR en34 (put_at ho true _ [[59, 10]] (by simp) (by simp) (by (try simp only [List.length_append, List.length_cons, List.length_nil, List.flatten_cons, List.flatten_nil, List.append_nil]); omega) _) (fun v' σ' hR => ?_)
          obtain ⟨rfl, rfl⟩ := hR
          simp only [go_sem, Nat.reduceAdd, Nat.reduceEqDiff, Nat.reduceLeDiff, true_and, List.length_map, len_row, one_row, A.enc_one, A.enc_len, pb_geta, pb_geta0, pb_seta, pb_seta0, pb_len, bs_size, NodeM.enc, EqM.enc, VarM.enc, A.eqc_get128, List.drop_succ_cons, List.drop_zero, A.enc_get47]
          refine hK _ _ fun env' hw => ?_
          simp only [setL_cons, setL_nil, List.set_cons_zero, List.set_cons_succ] at hw
          refine hK24 _ _ (AW.weaken hw ?_); clear hw; try clear hK24 K24
          refine AW.lastl false [34] (by rfl) fun K hK => ?_ -- region 14
          simp only [go_sem, Nat.reduceAdd, Nat.reduceEqDiff, Nat.reduceLeDiff, true_and, List.length_map, len_row, one_row, A.enc_one, A.enc_len, pb_geta, pb_geta0, pb_seta, pb_seta0, pb_len, bs_size, NodeM.enc, EqM.enc, VarM.enc, A.eqc_get128, List.drop_succ_cons, List.drop_zero, A.enc_get47]
          refine hK _ _ fun env' hw => ?_
          simp only [setL_cons, setL_nil, List.set_cons_zero, List.set_cons_succ] at hw
          refine ⟨i + 1, by omega, by omega, ?_, ?_⟩
          · refine hw.trans ?_
            simp [Wk, wrap_succ hi1 hl0]
          · rw [hfl, hgi]
            simp [List.take_append, List.take_of_length_le, pb_len, eqT, hL]
      · skip
        have hi1 : i = n.eqs.length := by
          have : ¬ i < n.eqs.length := by simpa using hc35
          omega
        rw [hi1, show (n.eqs.map eqT).take n.eqs.length = n.eqs.map eqT from List.take_of_length_le (by simp)]
        refine AW.exit ?_
        refine hK20 _ _ ?_; try clear hK20 K20
        refine AW.lastl false [] (by rfl) fun K hK => ?_ -- region 15
        simp only [go_sem, Nat.reduceAdd, Nat.reduceEqDiff, Nat.reduceLeDiff, true_and, List.length_map, len_row, one_row, A.enc_one, A.enc_len, pb_geta, pb_geta0, pb_seta, pb_seta0, pb_len, bs_size, NodeM.enc, EqM.enc, VarM.enc, A.eqc_get128, List.drop_succ_cons, List.drop_zero, A.enc_get47]
        refine sC.ofR en34 (put_at ho true _ [[116, 101, 108, 10]] (by simp) (by simp) (by (try simp only [List.length_append, List.length_cons, List.length_nil, List.flatten_cons, List.flatten_nil, List.append_nil]); omega) _) (fun v' σ' hR => ?_)
        obtain ⟨rfl, rfl⟩ := hR
        simp only [go_sem, Nat.reduceAdd, Nat.reduceEqDiff, Nat.reduceLeDiff, true_and, List.length_map, len_row, one_row, A.enc_one, A.enc_len, pb_geta, pb_geta0, pb_seta, pb_seta0, pb_len, bs_size, NodeM.enc, EqM.enc, VarM.enc, A.eqc_get128, List.drop_succ_cons, List.drop_zero, A.enc_get47]
        refine hK _ _ fun env' hw => ?_
        simp only [setL_cons, setL_nil, List.set_cons_zero, List.set_cons_succ] at hw
        exact ⟨.inl rfl, _, rfl, _, _, rfl, by simp only [pb_len], fun j a h => pb_keep2 ho j a h, rfl, ⟨rfl, congrArg (pb σ o true) (by simp [nodeT])⟩⟩
end Pr
end Go.Proofs.Tryd
/-! Printing: function 6. -/
namespace Go.Proofs.Tryd
set_option linter.unusedSimpArgs false
set_option linter.unusedVariables false
open Go Go.Proofs.Ev
namespace Pr
variable {Γ : List (Nat × List AV)}
set_option maxRecDepth 100000 in
set_option maxHeartbeats 1000000 in
open A (E VarM EqM NodeM ProgM) in
theorem print_calls {w : AV} (hΓ : A.Words (GP w)) (p : ProgM) (hok : p.ok) (hg : ∀ n ∈ p.nodes, ∀ q ∈ n.eqs, ∀ d ∈ q.rhs.pre, rng d) (hb : p.right = true → (progT p).length ≤ LIM) : APure prog (GP w) 6 [ProgM.enc p] (.tup [str (bs (if p.right then progT p else [])), i64 (if p.right then 0 else 11)]) := by
  refine APure.of func6 rfl fun σ => ?_
  simp only [ntmps6, List.length_cons, List.length_nil, Nat.reduceAdd, Nat.reduceSub, List.replicate_succ, List.replicate_zero, List.cons_append, List.nil_append]
  have hpr := A.pright_calls hΓ p hok
  simp only [ProgM.enc] at hpr
  have hl0 : p.nodes.length ≤ maxLen := by rw [maxLen_eq]; have := hok.1; omega
  refine AW.regl false [1, 2, 3] (by rfl) fun K1 hK1 => ?_ -- region 0
  simp only [go_sem, Nat.reduceAdd, Nat.reduceEqDiff, Nat.reduceLeDiff, true_and, List.length_map, len_row, one_row, A.enc_one, A.enc_len, pb_geta, pb_geta0, pb_seta, pb_seta0, pb_len, bs_size, NodeM.enc, EqM.enc, VarM.enc, A.eqc_get128, List.drop_succ_cons, List.drop_zero, A.enc_get47, ProgM.enc, app_get, app_get0, A.node_get97, A.node_len, A.node_all]
  refine hK1 _ _ ?_; try clear hK1 K1
  conv => enter [5]; simp only [setL_cons, setL_nil, List.set_cons_zero, List.set_cons_succ]
  refine AW.seq_k fun K2 hK2 => ?_
  refine AW.regl false [9] (by rfl) fun K3 hK3 => ?_ -- region 1
  simp only [go_sem, Nat.reduceAdd, Nat.reduceEqDiff, Nat.reduceLeDiff, true_and, List.length_map, len_row, one_row, A.enc_one, A.enc_len, pb_geta, pb_geta0, pb_seta, pb_seta0, pb_len, bs_size, NodeM.enc, EqM.enc, VarM.enc, A.eqc_get128, List.drop_succ_cons, List.drop_zero, A.enc_get47, ProgM.enc, app_get, app_get0, A.node_get97, A.node_len, A.node_all]
  refine sC.of en15 (hpr.on _).here (by rfl) ?_
  simp only [go_sem, Nat.reduceAdd, Nat.reduceEqDiff, Nat.reduceLeDiff, true_and, List.length_map, len_row, one_row, A.enc_one, A.enc_len, pb_geta, pb_geta0, pb_seta, pb_seta0, pb_len, bs_size, NodeM.enc, EqM.enc, VarM.enc, A.eqc_get128, List.drop_succ_cons, List.drop_zero, A.enc_get47, ProgM.enc, app_get, app_get0, A.node_get97, A.node_len, A.node_all]
  refine hK3 _ _ ?_; try clear hK3 K3
  conv => enter [5]; simp only [setL_cons, setL_nil, List.set_cons_zero, List.set_cons_succ]
  refine AW.cond rfl (fun hc9 => ?_) (fun hc9 => ?_)
  · skip
    have hc : p.right = false := by simpa using hc9
    refine AW.regl false [2, 3] (by rfl) fun K4 hK4 => ?_ -- region 2
    simp only [go_sem, Nat.reduceAdd, Nat.reduceEqDiff, Nat.reduceLeDiff, true_and, List.length_map, len_row, one_row, A.enc_one, A.enc_len, pb_geta, pb_geta0, pb_seta, pb_seta0, pb_len, bs_size, NodeM.enc, EqM.enc, VarM.enc, A.eqc_get128, List.drop_succ_cons, List.drop_zero, A.enc_get47, ProgM.enc, app_get, app_get0, A.node_get97, A.node_len, A.node_all]
    refine hK4 _ _ ?_; try clear hK4 K4
    conv => enter [5]; simp only [setL_cons, setL_nil, List.set_cons_zero, List.set_cons_succ]
    refine AW.ret ⟨.inr rfl, _, rfl, by simp, ?_⟩ -- return 1
    rw [hc]
    exact .tup (.cons (.keep rfl) (.cons (.keep rfl) .nil))
  · skip
    have hc : p.right = true := by simpa using hc9
    have hlim := hb hc
    have hnr : ∀ n ∈ p.nodes, n.right = true := by
      simp only [ProgM.right, Bool.and_eq_true, Bool.not_eq_true', List.any_eq_false] at hc
      intro n hn
      have := hc.2 n hn
      simpa using this
    refine AW.skip ?_
    refine hK2 _ _ ?_; try clear hK2 K2
    refine AW.seq (AW.region ?_) -- the builder
    refine AOps.allocS rfl rfl zero59 rfl ?_
    refine AOps.nil ?_
    simp only [aput, List.length_append, List.length_cons, List.length_nil, Nat.zero_add, List.set_cons_zero, List.set_cons_succ, List.append_assoc, List.cons_append, List.nil_append]
    show AW _ _ _ _ _ (σ ++ [.cells [rowAV 5 p.nl (p.nodes.map NodeM.enc)], .cells [.val (.pointer none), .nilsl], .gh (.shp (σ.length + 1) 59 2)]) _
    refine AW.cap 1 ?_
    simp only [List.append_assoc, List.cons_append, List.nil_append]
    refine AW.own (σ.length + 1) 1 (σ.length + 3) ((app_get σ _ 1).trans rfl) rfl ((app_get σ _ 3).trans rfl) (by decide) ?_
    simp only [app_set, List.set_cons_zero, List.set_cons_succ]
    refine AW.cty0 (σ.length + 3) 5 (sz := 1) ((app_get σ _ 3).trans rfl) ?_
    simp only [List.append_assoc, List.cons_append, List.nil_append]
    show AW _ _ _ _ _ (σ ++ [.cells [rowAV 5 p.nl (p.nodes.map NodeM.enc)], .cells (bp (σ.length + 1) false []), .gh (.shp (σ.length + 1) 59 2), .cap ([] : List UInt8).length 1, .gh (.cty (σ.length + 1 + 2) ([] : List UInt8).length 5)]) _
    refine AW.seq_k fun K6 hK6 => ?_
    refine AW.regl false [11, 12, 13] (by rfl) fun K7 hK7 => ?_ -- region 4
    simp only [go_sem, Nat.reduceAdd, Nat.reduceEqDiff, Nat.reduceLeDiff, true_and, List.length_map, len_row, one_row, A.enc_one, A.enc_len, pb_geta, pb_geta0, pb_seta, pb_seta0, pb_len, bs_size, NodeM.enc, EqM.enc, VarM.enc, A.eqc_get128, List.drop_succ_cons, List.drop_zero, A.enc_get47, ProgM.enc, app_get, app_get0, A.node_get97, A.node_len, A.node_all]
    refine hK7 _ _ ?_; try clear hK7 K7
    conv => enter [5]; simp only [setL_cons, setL_nil, List.set_cons_zero, List.set_cons_succ]
    refine AW.block ?_
    refine AW.loop_dr (α := Nat) (fun i => [.any, .any, .any, .any, (.ref (σ.length + 1) 0), .any, .any, .any, .any, .any, .any, (rowAV 5 p.nl (p.nodes.map NodeM.enc)), (.val (.int .i64 ((p.nodes.length : Nat) : Int))), (.val (.int .i64 ((i : Nat) : Int))), .any, .any, .any, .any, .any, .any, .any, .any]) (fun i => σ ++ [.cells [rowAV 5 p.nl (p.nodes.map NodeM.enc)], .cells (bp (σ.length + 1) (decide (0 < i)) (((p.nodes.map nodeT).take i).flatten)), .gh (.shp (σ.length + 1) 59 2), .cap (((p.nodes.map nodeT).take i).flatten).length 1, .gh (.cty (σ.length + 1 + 2) (((p.nodes.map nodeT).take i).flatten).length 5)]) (fun i => p.nodes.length - i) (fun i => i ≤ p.nodes.length) 0 ?_ ?_ ?_
    · exact ⟨Nat.zero_le _, by simp [Wk], rfl⟩
    · exact fun y _ => ⟨by simp only [belL, AV.bel, Bool.and_true, Bool.true_and, Bool.and_eq_true, decide_eq_true_eq]; and_intros <;> first | exact row_belA (nodes_bel _ _) | simp, bel_app σ fun a ha => by
      simp only [List.mem_cons, List.not_mem_nil, or_false] at ha
      rcases ha with rfl | rfl | rfl | rfl | rfl
      · exact A.prog_bel p _
      · exact bp_bel _ _ _ _ (by simp)
      · exact decide_eq_true (by simp [Ghost.of])
      · rfl
      · exact decide_eq_true (by simp [Ghost.of])⟩
    · intro i hi
      refine AW.regl false [14] (by rfl) fun K8 hK8 => ?_ -- region 5
      simp only [go_sem, Nat.reduceAdd, Nat.reduceEqDiff, Nat.reduceLeDiff, true_and, List.length_map, len_row, one_row, A.enc_one, A.enc_len, pb_geta, pb_geta0, pb_seta, pb_seta0, pb_len, bs_size, NodeM.enc, EqM.enc, VarM.enc, A.eqc_get128, List.drop_succ_cons, List.drop_zero, A.enc_get47, ProgM.enc, app_get, app_get0, A.node_get97, A.node_len, A.node_all]
      refine hK8 _ _ ?_; try clear hK8 K8
      conv => enter [5]; simp only [setL_cons, setL_nil, List.set_cons_zero, List.set_cons_succ]
      refine AW.seq_k fun K9 hK9 => ?_
      refine AW.cond rfl (fun hc14 => ?_) (fun hc14 => ?_)
      · skip
        have hi1 : i < p.nodes.length := by simpa using hc14
        have hx : (p.nodes.map NodeM.enc)[i]? = some (NodeM.enc (p.nodes[i])) := by rw [List.getElem?_map, List.getElem?_eq_getElem hi1]; rfl
        have hii : i < (p.nodes.map nodeT).length := by simpa using hi1
        have hfl := flat_succ hii
        have hgi : (p.nodes.map nodeT)[i] = nodeT p.nodes[i] := by simp
        have hfi := flat_le (p.nodes.map nodeT) (i + 1)
        rw [hfl, hgi, List.length_append] at hfi
        unfold progT at hlim
        have hnt := fun τ hτ => node_text (w := w) (σ := τ) (o := σ.length + 1) hτ p.nodes[i] (hnr _ (List.getElem_mem hi1)) (hg _ (List.getElem_mem hi1)) (decide (0 < i)) (((p.nodes.map nodeT).take i).flatten) (by omega)
        simp only [NodeM.enc] at hnt
        refine AW.skip ?_
        refine hK9 _ _ ?_; try clear hK9 K9
        refine AW.seq_k fun K10 hK10 => ?_
        refine AW.block ?_
        refine AW.regl false [6] (by rfl) fun K11 hK11 => ?_ -- region 6
        simp only [go_sem, Nat.reduceAdd, Nat.reduceEqDiff, Nat.reduceLeDiff, true_and, List.length_map, len_row, one_row, A.enc_one, A.enc_len, pb_geta, pb_geta0, pb_seta, pb_seta0, pb_len, bs_size, NodeM.enc, EqM.enc, VarM.enc, A.eqc_get128, List.drop_succ_cons, List.drop_zero, A.enc_get47, ProgM.enc, app_get, app_get0, A.node_get97, A.node_len, A.node_all, at_row hx]
        refine hK11 _ _ ?_; try clear hK11 K11
        conv => enter [5]; simp only [setL_cons, setL_nil, List.set_cons_zero, List.set_cons_succ, upd_none, upd_at]
        refine AW.lastl false [] (by rfl) fun K hK => ?_ -- region 7
        simp only [go_sem, Nat.reduceAdd, Nat.reduceEqDiff, Nat.reduceLeDiff, true_and, List.length_map, len_row, one_row, A.enc_one, A.enc_len, pb_geta, pb_geta0, pb_seta, pb_seta0, pb_len, bs_size, NodeM.enc, EqM.enc, VarM.enc, A.eqc_get128, List.drop_succ_cons, List.drop_zero, A.enc_get47, ProgM.enc, app_get, app_get0, A.node_get97, A.node_len, A.node_all]
        refine sC.ofR en16 (at_L σ _ _ hnt) (fun v' σ' hR => ?_)
        obtain ⟨rfl, rfl⟩ := hR
        simp only [go_sem, Nat.reduceAdd, Nat.reduceEqDiff, Nat.reduceLeDiff, true_and, List.length_map, len_row, one_row, A.enc_one, A.enc_len, pb_geta, pb_geta0, pb_seta, pb_seta0, pb_len, bs_size, NodeM.enc, EqM.enc, VarM.enc, A.eqc_get128, List.drop_succ_cons, List.drop_zero, A.enc_get47, ProgM.enc, app_get, app_get0, A.node_get97, A.node_len, A.node_all]
        refine hK _ _ fun env' hw => ?_
        simp only [setL_cons, setL_nil, List.set_cons_zero, List.set_cons_succ] at hw
        refine hK10 _ _ (AW.weaken hw ?_); clear hw; try clear hK10 K10
        refine AW.lastl false [13] (by rfl) fun K hK => ?_ -- region 8
        simp only [go_sem, Nat.reduceAdd, Nat.reduceEqDiff, Nat.reduceLeDiff, true_and, List.length_map, len_row, one_row, A.enc_one, A.enc_len, pb_geta, pb_geta0, pb_seta, pb_seta0, pb_len, bs_size, NodeM.enc, EqM.enc, VarM.enc, A.eqc_get128, List.drop_succ_cons, List.drop_zero, A.enc_get47, ProgM.enc, app_get, app_get0, A.node_get97, A.node_len, A.node_all]
        refine hK _ _ fun env' hw => ?_
        simp only [setL_cons, setL_nil, List.set_cons_zero, List.set_cons_succ] at hw
        refine ⟨i + 1, by omega, by omega, ?_, ?_⟩
        · refine hw.trans ?_
          simp [Wk, wrap_succ hi1 hl0]
        · rw [hfl, hgi]
          simp [List.take_append, List.take_of_length_le]
      · skip
        have hi1 : i = p.nodes.length := by
          have : ¬ i < p.nodes.length := by simpa using hc14
          omega
        rw [hi1, show (p.nodes.map nodeT).take p.nodes.length = p.nodes.map nodeT from List.take_of_length_le (by simp)]
        refine AW.exit ?_
        refine hK6 _ _ ?_; try clear hK6 K6
        refine AW.regl false [2, 3] (by rfl) fun K12 hK12 => ?_ -- region 9
        simp only [go_sem, Nat.reduceAdd, Nat.reduceEqDiff, Nat.reduceLeDiff, true_and, List.length_map, len_row, one_row, A.enc_one, A.enc_len, pb_geta, pb_geta0, pb_seta, pb_seta0, pb_len, bs_size, NodeM.enc, EqM.enc, VarM.enc, A.eqc_get128, List.drop_succ_cons, List.drop_zero, A.enc_get47, ProgM.enc, app_get, app_get0, A.node_get97, A.node_len, A.node_all]
        refine sC.ofR en17 (at_L σ _ _ (fun τ hτ => string_calls hτ _ (p.nodes.map nodeT).flatten)) (fun v' σ' hR => ?_)
        obtain ⟨rfl, rfl⟩ := hR
        simp only [go_sem, Nat.reduceAdd, Nat.reduceEqDiff, Nat.reduceLeDiff, true_and, List.length_map, len_row, one_row, A.enc_one, A.enc_len, pb_geta, pb_geta0, pb_seta, pb_seta0, pb_len, bs_size, NodeM.enc, EqM.enc, VarM.enc, A.eqc_get128, List.drop_succ_cons, List.drop_zero, A.enc_get47, ProgM.enc, app_get, app_get0, A.node_get97, A.node_len, A.node_all]
        refine hK12 _ _ ?_; try clear hK12 K12
        conv => enter [5]; simp only [setL_cons, setL_nil, List.set_cons_zero, List.set_cons_succ]
        refine AW.ret ⟨.inr rfl, _, rfl, by simp, ?_⟩ -- return 2
        rw [hc]
        exact .tup (.cons (.keep rfl) (.cons (.keep rfl) .nil))
end Pr
end Go.Proofs.Tryd
/-! Printing: function 23. -/
namespace Go.Proofs.Tryd
set_option linter.unusedSimpArgs false
set_option linter.unusedVariables false
open Go Go.Proofs.Ev
namespace Pr
variable {Γ : List (Nat × List AV)}
set_option maxRecDepth 100000 in
theorem num_calls (n : Nat) (hn : n ≤ 9223372036854775807) : APure prog Γ 23 [i64 (n : Int)] (str (bs (Lib.decDigits n))) := by
  refine APure.of func23 rfl fun σ => ?_
  simp only [ntmps23, List.length_cons, List.length_nil, Nat.reduceAdd, Nat.reduceSub, List.replicate_succ, List.replicate_zero, List.cons_append, List.nil_append]
  have hl := Lib.itoa_length_le n (by omega) (by omega)
  rw [Lib.itoa, if_neg (by omega), show (n : Int).toNat = n by omega] at hl
  refine AW.regl false [2] (by rfl) fun K1 hK1 => ?_ -- region 0
  simp only [go_sem, Nat.reduceAdd, Nat.reduceEqDiff, Nat.reduceLeDiff, true_and, List.length_map, len_row, one_row, A.enc_one, A.enc_len, bs_size, app_get, app_get0]
  refine hK1 _ _ ?_; try clear hK1 K1
  conv => enter [5]; simp only [setL_cons, setL_nil, List.set_cons_zero, List.set_cons_succ]
  refine AW.regl false [3] (by rfl) fun K2 hK2 => ?_ -- region 1
  simp only [go_sem, Nat.reduceAdd, Nat.reduceEqDiff, Nat.reduceLeDiff, true_and, List.length_map, len_row, one_row, A.enc_one, A.enc_len, bs_size, app_get, app_get0]
  refine hK2 _ _ ?_; try clear hK2 K2
  conv => enter [5]; simp only [setL_cons, setL_nil, List.set_cons_zero, List.set_cons_succ]
  refine AW.block ?_
  refine AW.loop_wk (α := Nat × List UInt8) (fun z => [(.val (.int .i64 ((z.1 : Nat) : Int))), .any, .any, (.val (.string (bs z.2))), .any, .any, .any, .any, .any, .any, .any, .any, .any, .any, .any, .any, .any]) (fun z => σ) (fun z => z.1) (fun z => Lib.decDigits z.1 ++ z.2 = Lib.decDigits n ∧ z.1 ≤ n) (n, []) ?_ ?_
  · exact ⟨⟨by simp, Nat.le_refl _⟩, by simp [Wk, bs], rfl⟩
  · rintro ⟨m, a⟩ ⟨hinv, hmn⟩
    simp only at hinv hmn
    have hal : a.length ≤ 21 := by have := congrArg List.length hinv; rw [List.length_append] at this; omega
    refine AW.block ?_
    obtain ⟨T11, hT11⟩ : ∃ z, z = ([UInt8.ofNat (48 + m % 10)]) ++ a := ⟨_, rfl⟩
    have hL11 : T11.length = ([UInt8.ofNat (48 + m % 10)]).length + a.length := by rw [hT11, List.length_append]
    try simp only [List.length_cons, List.length_nil] at hL11
    have hA11 : aBin prog .add 9 (.val (.string (bs [UInt8.ofNat (48 + m % 10)]))) (.val (.string (bs a))) = some (.val (.string (bs T11))) := by rw [hT11]; exact addS _ (a := ([UInt8.ofNat (48 + m % 10)])) (b := a) (show _ ≤ 140737488355328 by (try simp only [List.length_cons, List.length_nil]); omega)
    refine AW.regl false [3] (by rfl) fun K3 hK3 => ?_ -- region 2
    simp only [go_sem, Nat.reduceAdd, Nat.reduceEqDiff, Nat.reduceLeDiff, true_and, List.length_map, len_row, one_row, A.enc_one, A.enc_len, bs_size, app_get, app_get0, bin_rem (b := 10) (by decide), cvt2_5, dig_val, row1_55, cv55, hA11]
    refine hK3 _ _ ?_; try clear hK3 K3
    conv => enter [5]; simp only [setL_cons, setL_nil, List.set_cons_zero, List.set_cons_succ]
    refine AW.regl false [0] (by rfl) fun K4 hK4 => ?_ -- region 3
    simp only [go_sem, Nat.reduceAdd, Nat.reduceEqDiff, Nat.reduceLeDiff, true_and, List.length_map, len_row, one_row, A.enc_one, A.enc_len, bs_size, app_get, app_get0, bin_quo (b := 10) (by decide), quo_val (Nat.le_trans hmn hn)]
    refine hK4 _ _ ?_; try clear hK4 K4
    conv => enter [5]; simp only [setL_cons, setL_nil, List.set_cons_zero, List.set_cons_succ]
    refine AW.regl false [15] (by rfl) fun K5 hK5 => ?_ -- region 4
    simp only [go_sem, Nat.reduceAdd, Nat.reduceEqDiff, Nat.reduceLeDiff, true_and, List.length_map, len_row, one_row, A.enc_one, A.enc_len, bs_size, app_get, app_get0]
    refine hK5 _ _ ?_; try clear hK5 K5
    conv => enter [5]; simp only [setL_cons, setL_nil, List.set_cons_zero, List.set_cons_succ]
    refine AW.cond rfl (fun hc15 => ?_) (fun hc15 => ?_)
    · skip
      have hm0 : m / 10 = 0 := by have h := hc15; simp at h; omega
      refine AW.regl false [2] (by rfl) fun K6 hK6 => ?_ -- region 5
      simp only [go_sem, Nat.reduceAdd, Nat.reduceEqDiff, Nat.reduceLeDiff, true_and, List.length_map, len_row, one_row, A.enc_one, A.enc_len, bs_size, app_get, app_get0]
      refine hK6 _ _ ?_; try clear hK6 K6
      conv => enter [5]; simp only [setL_cons, setL_nil, List.set_cons_zero, List.set_cons_succ]
      refine AW.ret ⟨.inr rfl, _, rfl, by simp, ?_⟩ -- return 1
      rw [show T11 = Lib.decDigits n by rw [hT11, dig_last m a hm0]; exact hinv]
      exact .keep rfl
    · skip
      have hm0 : ¬ m / 10 = 0 := by have h := hc15; simp at h; omega
      refine AW.skip ?_
      refine ⟨(m / 10, T11), ?_, ⟨?_, ?_⟩, ?_, rfl⟩
      · simp only; omega
      · simp only
        rw [hT11, dig_step m a (by omega)]
        exact hinv
      · simp only; omega
      · skip
        simp [Wk]
end Pr
end Go.Proofs.Tryd
/-! Printing: function 26. -/
namespace Go.Proofs.Tryd
set_option linter.unusedSimpArgs false
set_option linter.unusedVariables false
open Go Go.Proofs.Ev
namespace Pr
variable {Γ : List (Nat × List AV)}
set_option maxRecDepth 100000 in
theorem lv_calls (p : Int) (h0 : 0 ≤ p) (h1 : p ≤ 15) : APure prog Γ 26 [i64 p] (i64 (opL p)) := by
  refine APure.of func26 rfl fun σ => ?_
  simp only [ntmps26, List.length_cons, List.length_nil, Nat.reduceAdd, Nat.reduceSub, List.replicate_succ, List.replicate_zero, List.cons_append, List.nil_append]
  refine AW.regl false [2] (by rfl) fun K1 hK1 => ?_ -- region 0
  simp only [go_sem, Nat.reduceAdd, Nat.reduceEqDiff, Nat.reduceLeDiff, true_and, List.length_map, len_row, one_row, A.enc_one, A.enc_len, bs_size, app_get, app_get0]
  refine hK1 _ _ ?_; try clear hK1 K1
  conv => enter [5]; simp only [setL_cons, setL_nil, List.set_cons_zero, List.set_cons_succ]
  refine AW.regl false [2] (by rfl) fun K2 hK2 => ?_ -- region 1
  simp only [go_sem, Nat.reduceAdd, Nat.reduceEqDiff, Nat.reduceLeDiff, true_and, List.length_map, len_row, one_row, A.enc_one, A.enc_len, bs_size, app_get, app_get0, row16_89, lev_at h0 h1]
  refine hK2 _ _ ?_; try clear hK2 K2
  conv => enter [5]; simp only [setL_cons, setL_nil, List.set_cons_zero, List.set_cons_succ]
  refine AW.ret ⟨.inr rfl, _, rfl, by simp, ?_⟩ -- return 1
  exact .keep rfl
end Pr
end Go.Proofs.Tryd
/-! Printing: function 39. -/
namespace Go.Proofs.Tryd
set_option linter.unusedSimpArgs false
set_option linter.unusedVariables false
open Go Go.Proofs.Ev
namespace Pr
variable {Γ : List (Nat × List AV)}
set_option maxRecDepth 100000 in
open A (E VarM EqM NodeM ProgM) in
theorem rlevel_calls (k p n : Int) (s : ByteArray) (nl : Bool) (l : List E) (hp : k = 4 → 0 ≤ p ∧ p ≤ 15) : APure prog Γ 39 [E.enc (.mk k p n s nl l)] (i64 (lev (.mk k p n s nl l))) := by
  refine APure.of func39 rfl fun σ => ?_
  simp only [ntmps39, List.length_cons, List.length_nil, Nat.reduceAdd, Nat.reduceSub, List.replicate_succ, List.replicate_zero, List.cons_append, List.nil_append]
  rw [E.enc_mk]
  refine AW.regl false [1, 2] (by rfl) fun K1 hK1 => ?_ -- region 0
  simp only [go_sem, Nat.reduceAdd, Nat.reduceEqDiff, Nat.reduceLeDiff, true_and, List.length_map, len_row, one_row, A.enc_one, A.enc_len, bs_size, app_get, app_get0]
  refine hK1 _ _ ?_; try clear hK1 K1
  conv => enter [5]; simp only [setL_cons, setL_nil, List.set_cons_zero, List.set_cons_succ]
  refine AW.seq_k fun K2 hK2 => ?_
  refine AW.regl false [4] (by rfl) fun K3 hK3 => ?_ -- region 1
  simp only [go_sem, Nat.reduceAdd, Nat.reduceEqDiff, Nat.reduceLeDiff, true_and, List.length_map, len_row, one_row, A.enc_one, A.enc_len, bs_size, app_get, app_get0]
  refine hK3 _ _ ?_; try clear hK3 K3
  conv => enter [5]; simp only [setL_cons, setL_nil, List.set_cons_zero, List.set_cons_succ]
  refine AW.block ?_
  refine AW.regl false [5] (by rfl) fun K4 hK4 => ?_ -- region 2
  simp only [go_sem, Nat.reduceAdd, Nat.reduceEqDiff, Nat.reduceLeDiff, true_and, List.length_map, len_row, one_row, A.enc_one, A.enc_len, bs_size, app_get, app_get0]
  refine hK4 _ _ ?_; try clear hK4 K4
  conv => enter [5]; simp only [setL_cons, setL_nil, List.set_cons_zero, List.set_cons_succ]
  refine AW.cond rfl (fun hc5 => ?_) (fun hc5 => ?_)
  · skip
    have hk3 : k = 3 := by simpa using hc5
    have hk : lev (.mk k p n s nl l) = 7 := by rw [hk3]; rfl
    refine AW.regl false [2] (by rfl) fun K5 hK5 => ?_ -- region 3
    simp only [go_sem, Nat.reduceAdd, Nat.reduceEqDiff, Nat.reduceLeDiff, true_and, List.length_map, len_row, one_row, A.enc_one, A.enc_len, bs_size, app_get, app_get0]
    refine hK5 _ _ ?_; try clear hK5 K5
    conv => enter [5]; simp only [setL_cons, setL_nil, List.set_cons_zero, List.set_cons_succ]
    refine AW.ret ⟨.inr rfl, _, rfl, by simp, ?_⟩ -- return 1
    rw [hk]
    exact .keep rfl
  · skip
    refine AW.regl false [7] (by rfl) fun K6 hK6 => ?_ -- region 4
    simp only [go_sem, Nat.reduceAdd, Nat.reduceEqDiff, Nat.reduceLeDiff, true_and, List.length_map, len_row, one_row, A.enc_one, A.enc_len, bs_size, app_get, app_get0]
    refine hK6 _ _ ?_; try clear hK6 K6
    conv => enter [5]; simp only [setL_cons, setL_nil, List.set_cons_zero, List.set_cons_succ]
    refine AW.cond rfl (fun hc7 => ?_) (fun hc7 => ?_)
    · skip
      have hk4 : k = 4 := by simpa using hc7
      have hk : lev (.mk k p n s nl l) = opL p := by rw [hk4]; rfl
      obtain ⟨h0, h1⟩ := hp hk4
      refine AW.regl false [2] (by rfl) fun K7 hK7 => ?_ -- region 5
      simp only [go_sem, Nat.reduceAdd, Nat.reduceEqDiff, Nat.reduceLeDiff, true_and, List.length_map, len_row, one_row, A.enc_one, A.enc_len, bs_size, app_get, app_get0]
      refine sC.of en26 ((lv_calls p h0 h1).on _).here (by rfl) ?_
      simp only [go_sem, Nat.reduceAdd, Nat.reduceEqDiff, Nat.reduceLeDiff, true_and, List.length_map, len_row, one_row, A.enc_one, A.enc_len, bs_size, app_get, app_get0]
      refine hK7 _ _ ?_; try clear hK7 K7
      conv => enter [5]; simp only [setL_cons, setL_nil, List.set_cons_zero, List.set_cons_succ]
      refine AW.ret ⟨.inr rfl, _, rfl, by simp, ?_⟩ -- return 2
      rw [hk]
      exact .keep rfl
    · skip
      refine AW.regl false [12] (by rfl) fun K8 hK8 => ?_ -- region 6
      simp only [go_sem, Nat.reduceAdd, Nat.reduceEqDiff, Nat.reduceLeDiff, true_and, List.length_map, len_row, one_row, A.enc_one, A.enc_len, bs_size, app_get, app_get0]
      refine hK8 _ _ ?_; try clear hK8 K8
      conv => enter [5]; simp only [setL_cons, setL_nil, List.set_cons_zero, List.set_cons_succ]
      refine AW.cond rfl (fun hc12 => ?_) (fun hc12 => ?_)
      · skip
        have hk5 : k = 5 := by simpa using hc12
        have hk : lev (.mk k p n s nl l) = -1 := by rw [hk5]; rfl
        refine AW.regl false [2] (by rfl) fun K9 hK9 => ?_ -- region 7
        simp only [go_sem, Nat.reduceAdd, Nat.reduceEqDiff, Nat.reduceLeDiff, true_and, List.length_map, len_row, one_row, A.enc_one, A.enc_len, bs_size, app_get, app_get0]
        refine hK9 _ _ ?_; try clear hK9 K9
        conv => enter [5]; simp only [setL_cons, setL_nil, List.set_cons_zero, List.set_cons_succ]
        refine AW.ret ⟨.inr rfl, _, rfl, by simp, ?_⟩ -- return 3
        rw [hk]
        exact .keep rfl
      · skip
        have hk : lev (.mk k p n s nl l) = 8 := by rw [lev_mk, if_neg (ne_true_of_eq_false hc12), if_neg (ne_true_of_eq_false hc7), if_neg (ne_true_of_eq_false hc5)]
        refine AW.skip ?_
        refine hK2 _ _ ?_; try clear hK2 K2
        refine AW.regl false [2] (by rfl) fun K10 hK10 => ?_ -- region 8
        simp only [go_sem, Nat.reduceAdd, Nat.reduceEqDiff, Nat.reduceLeDiff, true_and, List.length_map, len_row, one_row, A.enc_one, A.enc_len, bs_size, app_get, app_get0]
        refine hK10 _ _ ?_; try clear hK10 K10
        conv => enter [5]; simp only [setL_cons, setL_nil, List.set_cons_zero, List.set_cons_succ]
        refine AW.ret ⟨.inr rfl, _, rfl, by simp, ?_⟩ -- return 4
        rw [hk]
        exact .keep rfl
end Pr
end Go.Proofs.Tryd
/-! Printing: function 24. -/
namespace Go.Proofs.Tryd
set_option linter.unusedSimpArgs false
set_option linter.unusedVariables false
open Go Go.Proofs.Ev
namespace Pr
variable {Γ : List (Nat × List AV)}
set_option maxRecDepth 100000 in
open A (E VarM EqM NodeM ProgM) in
theorem in_calls (k p n : Int) (s : ByteArray) (nl : Bool) (l : List E) (hp : k = 4 → 0 ≤ p ∧ p ≤ 15) (ih : APure prog Γ 11 [E.enc (.mk k p n s nl l)] (str (bs (tx (.mk k p n s nl l))))) (a : Int) (hf : (tx (.mk k p n s nl l)).length ≤ 1000000000) : APure prog Γ 24 [E.enc (.mk k p n s nl l), i64 a] (str (bs (oper (.mk k p n s nl l) a (tx (.mk k p n s nl l))))) := by
  refine APure.of func24 rfl fun σ => ?_
  simp only [ntmps24, List.length_cons, List.length_nil, Nat.reduceAdd, Nat.reduceSub, List.replicate_succ, List.replicate_zero, List.cons_append, List.nil_append]
  rw [E.enc_mk]
  have hlv := rlevel_calls (Γ := Γ) k p n s nl l hp
  rw [E.enc_mk] at hlv ih
  obtain ⟨X, hX⟩ : ∃ z, z = tx (.mk k p n s nl l) := ⟨_, rfl⟩
  rw [← hX] at ih hf ⊢
  refine AW.regl false [2, 4] (by rfl) fun K1 hK1 => ?_ -- region 0
  simp only [go_sem, Nat.reduceAdd, Nat.reduceEqDiff, Nat.reduceLeDiff, true_and, List.length_map, len_row, one_row, A.enc_one, A.enc_len, bs_size, app_get, app_get0]
  refine hK1 _ _ ?_; try clear hK1 K1
  conv => enter [5]; simp only [setL_cons, setL_nil, List.set_cons_zero, List.set_cons_succ]
  refine AW.seq_k fun K2 hK2 => ?_
  refine AW.regl false [8] (by rfl) fun K3 hK3 => ?_ -- region 1
  simp only [go_sem, Nat.reduceAdd, Nat.reduceEqDiff, Nat.reduceLeDiff, true_and, List.length_map, len_row, one_row, A.enc_one, A.enc_len, bs_size, app_get, app_get0]
  refine sC.of en39 (hlv.on _).here (by rfl) ?_
  simp only [go_sem, Nat.reduceAdd, Nat.reduceEqDiff, Nat.reduceLeDiff, true_and, List.length_map, len_row, one_row, A.enc_one, A.enc_len, bs_size, app_get, app_get0]
  refine hK3 _ _ ?_; try clear hK3 K3
  conv => enter [5]; simp only [setL_cons, setL_nil, List.set_cons_zero, List.set_cons_succ]
  refine AW.cond rfl (fun hc8 => ?_) (fun hc8 => ?_)
  · skip
    have ho1 : oper (.mk k p n s nl l) a X = brk X := by unfold oper; rw [if_neg (by have h := hc8; simp at h; omega)]
    obtain ⟨T11, hT11⟩ : ∃ z, z = ([40] : List UInt8) ++ X := ⟨_, rfl⟩
    have hL11 : T11.length = ([40] : List UInt8).length + X.length := by rw [hT11, List.length_append]
    try simp only [List.length_cons, List.length_nil] at hL11
    have hA11 : aBin prog .add 9 (.val (.string ⟨#[40]⟩)) (.val (.string (bs X))) = some (.val (.string (bs T11))) := by rw [hT11]; exact addS _ (a := ([40] : List UInt8)) (b := X) (show _ ≤ 140737488355328 by (try simp only [List.length_cons, List.length_nil]); omega)
    obtain ⟨T12, hT12⟩ : ∃ z, z = T11 ++ ([41] : List UInt8) := ⟨_, rfl⟩
    have hL12 : T12.length = T11.length + ([41] : List UInt8).length := by rw [hT12, List.length_append]
    try simp only [List.length_cons, List.length_nil] at hL12
    have hA12 : aBin prog .add 9 (.val (.string (bs T11))) (.val (.string ⟨#[41]⟩)) = some (.val (.string (bs T12))) := by rw [hT12]; exact addS _ (a := T11) (b := ([41] : List UInt8)) (show _ ≤ 140737488355328 by (try simp only [List.length_cons, List.length_nil]); omega)
    refine AW.regl false [4] (by rfl) fun K4 hK4 => ?_ -- region 2
    simp only [go_sem, Nat.reduceAdd, Nat.reduceEqDiff, Nat.reduceLeDiff, true_and, List.length_map, len_row, one_row, A.enc_one, A.enc_len, bs_size, app_get, app_get0, hA11, hA12]
    refine sC.of en11 (ih.on _).here (by rfl) ?_
    simp only [go_sem, Nat.reduceAdd, Nat.reduceEqDiff, Nat.reduceLeDiff, true_and, List.length_map, len_row, one_row, A.enc_one, A.enc_len, bs_size, app_get, app_get0, hA11, hA12]
    refine hK4 _ _ ?_; try clear hK4 K4
    conv => enter [5]; simp only [setL_cons, setL_nil, List.set_cons_zero, List.set_cons_succ]
    refine AW.ret ⟨.inr rfl, _, rfl, by simp, ?_⟩ -- return 1
    rw [ho1, show brk X = T12 by rw [hT12, hT11]; simp [brk]]
    exact .keep rfl
  · skip
    have ho1 : oper (.mk k p n s nl l) a X = X := by unfold oper; rw [if_pos (by have h := hc8; simp at h; omega)]
    refine AW.skip ?_
    refine hK2 _ _ ?_; try clear hK2 K2
    refine AW.regl false [4] (by rfl) fun K5 hK5 => ?_ -- region 3
    simp only [go_sem, Nat.reduceAdd, Nat.reduceEqDiff, Nat.reduceLeDiff, true_and, List.length_map, len_row, one_row, A.enc_one, A.enc_len, bs_size, app_get, app_get0]
    refine sC.of en11 (ih.on _).here (by rfl) ?_
    simp only [go_sem, Nat.reduceAdd, Nat.reduceEqDiff, Nat.reduceLeDiff, true_and, List.length_map, len_row, one_row, A.enc_one, A.enc_len, bs_size, app_get, app_get0]
    refine hK5 _ _ ?_; try clear hK5 K5
    conv => enter [5]; simp only [setL_cons, setL_nil, List.set_cons_zero, List.set_cons_succ]
    refine AW.ret ⟨.inr rfl, _, rfl, by simp, ?_⟩ -- return 2
    rw [ho1]
    exact .keep rfl
open A (E VarM EqM NodeM ProgM) in
theorem in_mk {k p n : Int} {s : ByteArray} {nl : Bool} {l : List E} (hp : k = 4 → 0 ≤ p ∧ p ≤ 15) (ih : APure prog Γ 11 [E.enc (.mk k p n s nl l)] (str (bs (tx (.mk k p n s nl l))))) (a : Int) (hf : (tx (.mk k p n s nl l)).length ≤ 1000000000) :
    APure prog Γ 24 [.agg [i64 k, i64 p, i64 n, str s, rowAV 5 nl (l.map E.enc)], i64 a] (str (bs (oper (.mk k p n s nl l) a (tx (.mk k p n s nl l))))) := by
  have := in_calls k p n s nl l hp ih a hf
  rwa [E.enc_mk] at this
theorem arg_at {f : Nat} {x : AV} {a b : Int} {v : AV} (h : APure prog Γ f [x, i64 a] v) (e : a = b) : APure prog Γ f [x, i64 b] v := e ▸ h
end Pr
end Go.Proofs.Tryd
