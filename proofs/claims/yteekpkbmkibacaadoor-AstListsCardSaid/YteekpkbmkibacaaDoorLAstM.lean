import Derived.Test.YteekpkbmkibacaaDoorLTy
import Derived.Test.YteekpkbmkibacaaDoorLEvIter
/-! Expressions: what they are, and what is asked of them. -/
namespace Go.Proofs.Tryd
set_option linter.unusedSimpArgs false
set_option linter.unusedVariables false
open Go Go.Proofs.Ev
namespace A
abbrev i64 (n : Int) : AV := .val (.int .i64 n)
abbrev str (s : ByteArray) : AV := .val (.string s)
abbrev bool (b : Bool) : AV := .val (.bool b)
/-- An expression: its kind, its op, its number, its name, whether its operands are nil if there are none, its operands. -/
inductive E where
  | mk (kind op n : Int) (name : ByteArray) (nl : Bool) (kids : List E)
def E.kids : E → List E
  | .mk _ _ _ _ _ l => l
mutual
def E.enc : E → AV
  | .mk k o n s nl l => .agg [i64 k, i64 o, i64 n, str s, rowAV 5 nl (encL l)]
def encL : List E → List AV
  | [] => []
  | e :: l => e.enc :: encL l
end
theorem encL_map : ∀ l : List E, encL l = l.map E.enc
  | [] => rfl
  | e :: l => by rw [encL, encL_map l]; rfl
theorem E.enc_mk (k o n : Int) (s : ByteArray) (nl : Bool) (l : List E) : (E.mk k o n s nl l).enc = .agg [i64 k, i64 o, i64 n, str s, rowAV 5 nl (l.map E.enc)] := by rw [E.enc, encL_map]
mutual
def E.size : E → Nat
  | .mk _ _ _ _ _ l => 1 + sizeL l
def sizeL : List E → Nat
  | [] => 0
  | e :: l => e.size + sizeL l
end
mutual
def E.depth : E → Nat
  | .mk _ _ _ _ _ l => depthL l + 1
def depthL : List E → Nat
  | [] => 0
  | e :: l => max e.depth (depthL l)
end
mutual
/-- Nil where there is nothing. -/
def E.norm : E → E
  | .mk k o n s _ l => .mk k o n s true (normL l)
def normL : List E → List E
  | [] => []
  | e :: l => e.norm :: normL l
end
theorem normL_map : ∀ l : List E, normL l = l.map E.norm
  | [] => rfl
  | e :: l => by rw [normL, normL_map l]; rfl
theorem E.norm_mk (k o n : Int) (s : ByteArray) (nl : Bool) (l : List E) : (E.mk k o n s nl l).norm = .mk k o n s true (l.map E.norm) := by rw [E.norm, normL_map]
mutual
/-- It, and all below it, each ahead of its operands. -/
def E.pre : E → List E
  | .mk k o n s nl l => .mk k o n s nl l :: preL l
def preL : List E → List E
  | [] => []
  | e :: l => e.pre ++ preL l
end
mutual
theorem E.ind {p : E → Prop} (h : ∀ k o n s nl l, (∀ e ∈ l, p e) → p (.mk k o n s nl l)) : ∀ e, p e
  | .mk k o n s nl l => h k o n s nl l (E.indL h l)
theorem E.indL {p : E → Prop} (h : ∀ k o n s nl l, (∀ e ∈ l, p e) → p (.mk k o n s nl l)) : ∀ (l : List E) (e : E), e ∈ l → p e
  | [], _, he => by cases he
  | e :: l, d, hd => (List.mem_cons.1 hd).elim (fun q => q ▸ E.ind h e) (fun q => E.indL h l d q)
end
theorem sizeL_append : ∀ (l m : List E), sizeL (l ++ m) = sizeL l + sizeL m
  | [], m => by simp [sizeL]
  | e :: l, m => by simp [sizeL, sizeL_append l m, Nat.add_assoc]
theorem sizeL_take {l : List E} {i : Nat} (h : i < l.length) : sizeL (l.take (i + 1)) = sizeL (l.take i) + (l[i]).size := by
  rw [List.take_succ_eq_append_getElem h, sizeL_append]
  simp [sizeL]
theorem sizeL_le {l : List E} (i : Nat) : sizeL (l.take i) ≤ sizeL l := by
  have := congrArg sizeL (List.take_append_drop i l)
  rw [sizeL_append] at this
  omega
theorem size_pos (e : E) : 1 ≤ e.size := by cases e; simp [E.size]
theorem length_sizeL : ∀ l : List E, l.length ≤ sizeL l
  | [] => by simp [sizeL]
  | e :: l => by
    have := size_pos e
    have := length_sizeL l
    simp [sizeL]
    omega
theorem size_mem {e : E} : ∀ {l : List E}, e ∈ l → e.size ≤ sizeL l
  | d :: l, h => by
    simp only [sizeL]
    rcases List.mem_cons.1 h with rfl | h
    · omega
    · have := size_mem h
      omega
theorem depthL_append : ∀ (l m : List E), depthL (l ++ m) = max (depthL l) (depthL m)
  | [], m => by simp [depthL]
  | e :: l, m => by simp [depthL, depthL_append l m, Nat.max_assoc]
theorem depthL_take {l : List E} {i : Nat} (h : i < l.length) : depthL (l.take (i + 1)) = max (depthL (l.take i)) (l[i]).depth := by
  rw [List.take_succ_eq_append_getElem h, depthL_append]
  simp [depthL]
theorem depth_size : ∀ e : E, e.depth ≤ e.size := E.ind fun k o n s nl l ih => by
  have go : ∀ l : List E, (∀ e ∈ l, e.depth ≤ e.size) → depthL l ≤ sizeL l := by
    intro l
    induction l with
    | nil => simp [depthL]
    | cons e l ih' =>
      intro h
      have h1 := h e List.mem_cons_self
      have h2 := ih' fun d hd => h d (List.mem_cons_of_mem _ hd)
      simp only [depthL, sizeL]
      omega
  have := go l ih
  simp only [E.depth, E.size]
  omega
theorem preL_append : ∀ (l m : List E), preL (l ++ m) = preL l ++ preL m
  | [], m => rfl
  | e :: l, m => by simp [preL, preL_append l m]
theorem preL_take {l : List E} {i : Nat} (h : i < l.length) : preL (l.take (i + 1)) = preL (l.take i) ++ (l[i]).pre := by
  rw [List.take_succ_eq_append_getElem h, preL_append]
  simp [preL]
theorem pre_length : ∀ e : E, e.pre.length = e.size := E.ind fun k o n s nl l ih => by
  have go : ∀ l : List E, (∀ e ∈ l, e.pre.length = e.size) → (preL l).length = sizeL l := by
    intro l
    induction l with
    | nil => simp [preL, sizeL]
    | cons e l ih' =>
      intro h
      have h1 := h e List.mem_cons_self
      have h2 := ih' fun d hd => h d (List.mem_cons_of_mem _ hd)
      simp only [preL, sizeL, List.length_append]
      omega
  have := go l ih
  simp only [E.pre, E.size, List.length_cons]
  omega
theorem preL_length (l : List E) : (preL l).length = sizeL l := by
  induction l with
  | nil => simp [preL, sizeL]
  | cons e l ih => simp [preL, sizeL, pre_length, ih]
noncomputable instance : DecidableEq E := fun _ _ => Classical.propDecidable _
theorem enc_cells (e : E) : ∃ a b c d r, e.enc = .agg [a, b, c, d, r] := by
  cases e
  exact ⟨_, _, _, _, _, E.enc_mk _ _ _ _ _ _⟩
theorem enc_len (e : E) : e.enc.cells.length = 5 := by
  obtain ⟨a, b, c, d, r, h⟩ := enc_cells e
  rw [h]
  rfl
theorem enc_one (e : E) : e.enc.cells.all AV.one = true := by
  cases e
  rw [E.enc_mk]
  simp only [AV.cells, List.all_cons, List.all_nil, one_int, one_str, one_row, Bool.and_true]
theorem enc_bel (n : Nat) : ∀ e : E, e.enc.bel n = true := E.ind fun k o m s nl l ih => by
  rw [E.enc_mk]
  have : (rowAV 5 nl (l.map E.enc)).bel n = true := by
    cases l with
    | nil => cases nl <;> rfl
    | cons a l => exact belL_map E.enc (a :: l) ih
  simp [AV.bel, belL, this]
theorem enc_get43 (e : E) : aGet prog 43 e.enc.cells = some e.enc := by
  obtain ⟨a, b, c, d, r, h⟩ := enc_cells e
  rw [h]
  exact get43 a b c d r []
theorem enc_get47 (e : E) : aGet prog 47 e.enc.cells = some e.enc := by
  obtain ⟨a, b, c, d, r, h⟩ := enc_cells e
  rw [h]
  exact get47 a b c d r []
end A
end Go.Proofs.Tryd

