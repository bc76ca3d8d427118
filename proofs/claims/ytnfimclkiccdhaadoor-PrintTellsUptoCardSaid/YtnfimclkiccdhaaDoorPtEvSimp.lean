import Derived.Test.YtnfimclkiccdhaaDoorPtEvTac
/-! The rules by which an operation is reckoned. -/
namespace Go.Proofs.Ev
set_option linter.unusedSimpArgs false
set_option linter.unusedVariables false
open Go
variable {P : Program} {Γ : List (Nat × List AV)}

theorem one_int (k : IntKind) (n : Int) : AV.one (.val (.int k n)) = true := rfl
theorem one_bool (b : Bool) : AV.one (.val (.bool b)) = true := rfl
theorem one_str (s : ByteArray) : AV.one (.val (.string s)) = true := rfl
theorem one_nilp : AV.one (.val (.pointer none)) = true := rfl
theorem one_nilsl : AV.one .nilsl = true := rfl
theorem one_sl (z : Nat) (l : List AV) : AV.one (.sl z l) = true := rfl
theorem one_slo (nl : Bool) (z : Nat) (l : List AV) (k : Nat) : AV.one (.slo nl z l k) = true := rfl
theorem one_osl (o a b z : Nat) : AV.one (.osl o a b z) = true := rfl
theorem one_ref (o a : Nat) : AV.one (.ref o a) = true := rfl
theorem one_er (l : List AV) : AV.one (.er l) = true := rfl
theorem one_fn (f : FuncId) (l : List AV) : AV.one (.fn f l) = true := rfl
theorem one_mapo (o : Nat) : AV.one (.mapo o) = true := rfl
theorem cells_agg (l : List AV) : AV.cells (.agg l) = l := rfl
theorem cells_val (v : Value) : AV.cells (.val v) = [.val v] := rfl
theorem cells_nilsl : AV.cells .nilsl = [.nilsl] := rfl
theorem cells_sl (z : Nat) (l : List AV) : AV.cells (.sl z l) = [.sl z l] := rfl
theorem cells_slo (nl : Bool) (z : Nat) (l : List AV) (k : Nat) : AV.cells (.slo nl z l k) = [.slo nl z l k] := rfl
theorem cells_osl (o a b z : Nat) : AV.cells (.osl o a b z) = [.osl o a b z] := rfl
theorem cells_ref (o a : Nat) : AV.cells (.ref o a) = [.ref o a] := rfl
theorem cells_er (l : List AV) : AV.cells (.er l) = [.er l] := rfl
theorem cells_fn (f : FuncId) (l : List AV) : AV.cells (.fn f l) = [.fn f l] := rfl
theorem cells_mapo (o : Nat) : AV.cells (.mapo o) = [.mapo o] := rfl
theorem newVar_eq {σ : Sto} {v : AV} (h : v.cells.all AV.one = true) : aNewVar σ v = some (.ref σ.length 0, σ ++ [.cells v.cells]) := by unfold aNewVar; rw [if_pos h]
theorem app_get (σ l : Sto) (k : Nat) : (σ ++ l)[σ.length + k]? = l[k]? := by rw [List.getElem?_append_right (by omega)]; congr 1; omega
theorem app_get0 (σ l : Sto) : (σ ++ l)[σ.length]? = l[0]? := app_get σ l 0
theorem app_set (σ l : Sto) (k : Nat) (v : AO) : (σ ++ l).set (σ.length + k) v = σ ++ l.set k v := by rw [List.set_append_right _ _ (by omega)]; congr 2; omega
theorem app_set0 (σ l : Sto) (v : AO) : (σ ++ l).set σ.length v = σ ++ l.set 0 v := app_set σ l 0 v
theorem app_take (σ l : Sto) : (σ ++ l).take σ.length = σ := List.take_left
theorem get_zero {α : Type} (a : α) (l : List α) : (a :: l)[0]? = some a := rfl
theorem get_succ {α : Type} (a : α) (l : List α) (n : Nat) : (a :: l)[n + 1]? = l[n]? := rfl
theorem load_er (σ : Sto) (T : TypeId) (cs : List AV) : aLoad P σ T (.er cs) = aGet P T cs := rfl
theorem off_er (off : Nat) (cs : List AV) : aOff off (.er cs) = some (.er (cs.drop off)) := rfl
theorem off_ref (off o k : Nat) : aOff off (.ref o k) = some (.ref o (k + off)) := rfl
theorem at_sl {sz : Nat} {es : List AV} {k : IntKind} {i : Nat} {a : AV} (h : es[i]? = some a) : aAt sz (.sl sz es) (.val (.int k i)) = some (.er a.cells) := by
  have hi : i < es.length := (List.getElem?_eq_some_iff.1 h).1
  simp only [aAt]
  rw [if_pos ⟨trivial, by omega, by omega⟩]
  simp [List.getD_eq_getElem?_getD, h]
theorem at_slo {nl : Bool} {sz : Nat} {es : List AV} {c : Nat} {k : IntKind} {i : Nat} {a : AV} (h : es[i]? = some a) : aAt sz (.slo nl sz es c) (.val (.int k i)) = some (.er a.cells) := by
  have hi : i < es.length := (List.getElem?_eq_some_iff.1 h).1
  simp only [aAt]
  rw [if_pos ⟨trivial, by omega, by omega⟩]
  simp [List.getD_eq_getElem?_getD, h]
theorem at_osl {sz o off len : Nat} {k : IntKind} {i : Nat} (h : i < len) : aAt sz (.osl o off len sz) (.val (.int k i)) = some (.ref o (off + i * sz)) := by
  simp only [aAt]
  rw [if_pos ⟨trivial, by omega, by omega⟩]
  simp
theorem len_nilsl : aLenSl .nilsl = some (.val (.int .i64 0)) := rfl
theorem len_sl (z : Nat) (l : List AV) : aLenSl (.sl z l) = some (.val (.int .i64 l.length)) := rfl
theorem len_slo (nl : Bool) (z : Nat) (l : List AV) (k : Nat) : aLenSl (.slo nl z l k) = some (.val (.int .i64 l.length)) := rfl
theorem len_osl (o a n z : Nat) : aLenSl (.osl o a n z) = some (.val (.int .i64 n)) := rfl
theorem len_str (s : ByteArray) : aLenStr (.val (.string s)) = some (.val (.int .i64 s.size)) := rfl

theorem bin_add (T : TypeId) (k : IntKind) (a b : Int) : aBin P .add T (.val (.int k a)) (.val (.int k b)) = some (.val (.int k (k.wrap (a + b)))) := by simp [aBin, aInt]
theorem bin_sub (T : TypeId) (k : IntKind) (a b : Int) : aBin P .sub T (.val (.int k a)) (.val (.int k b)) = some (.val (.int k (k.wrap (a - b)))) := by simp [aBin, aInt]
theorem bin_mul (T : TypeId) (k : IntKind) (a b : Int) : aBin P .mul T (.val (.int k a)) (.val (.int k b)) = some (.val (.int k (k.wrap (a * b)))) := by simp [aBin, aInt]
theorem bin_eql (T : TypeId) (k : IntKind) (a b : Int) : aBin P .eql T (.val (.int k a)) (.val (.int k b)) = some (.val (.bool (a == b))) := by simp [aBin, aInt]
theorem bin_neq (T : TypeId) (k : IntKind) (a b : Int) : aBin P .neq T (.val (.int k a)) (.val (.int k b)) = some (.val (.bool (a != b))) := by simp [aBin, aInt]
theorem bin_lss (T : TypeId) (k : IntKind) (a b : Int) : aBin P .lss T (.val (.int k a)) (.val (.int k b)) = some (.val (.bool (decide (a < b)))) := by simp [aBin, aInt]
theorem bin_leq (T : TypeId) (k : IntKind) (a b : Int) : aBin P .leq T (.val (.int k a)) (.val (.int k b)) = some (.val (.bool (decide (a ≤ b)))) := by simp [aBin, aInt]
theorem bin_gtr (T : TypeId) (k : IntKind) (a b : Int) : aBin P .gtr T (.val (.int k a)) (.val (.int k b)) = some (.val (.bool (decide (a > b)))) := by simp [aBin, aInt]
theorem bin_geq (T : TypeId) (k : IntKind) (a b : Int) : aBin P .geq T (.val (.int k a)) (.val (.int k b)) = some (.val (.bool (decide (a ≥ b)))) := by simp [aBin, aInt]
theorem bin_rem {T : TypeId} {k : IntKind} {a b : Int} (h : b ≠ 0) : aBin P .rem T (.val (.int k a)) (.val (.int k b)) = some (.val (.int k (a.tmod b))) := by simp [aBin, aInt, h]
theorem bin_quo {T : TypeId} {k : IntKind} {a b : Int} (h : b ≠ 0) : aBin P .quo T (.val (.int k a)) (.val (.int k b)) = some (.val (.int k (k.wrap (a.tdiv b)))) := by simp [aBin, aInt, h]
theorem bin_seql (T : TypeId) (a b : ByteArray) : aBin P .eql T (.val (.string a)) (.val (.string b)) = some (.val (.bool (a.toList == b.toList))) := by simp [aBin, aStr]
theorem bin_sneq (T : TypeId) (a b : ByteArray) : aBin P .neq T (.val (.string a)) (.val (.string b)) = some (.val (.bool (!(a.toList == b.toList)))) := by simp [aBin, aStr]
theorem un_not (b : Bool) : aUn .not (.val (.bool b)) = some (.val (.bool (!b))) := rfl
theorem un_neg (k : IntKind) (n : Int) : aUn .neg (.val (.int k n)) = some (.val (.int k (k.wrap (0 - n)))) := rfl
theorem ofConst_int (k : IntKind) (n : Int) : ofConst (.int k n) = .val (.int k n) := rfl
theorem ofConst_bool (b : Bool) : ofConst (.bool b) = .val (.bool b) := rfl
theorem ofConst_str (s : ByteArray) : ofConst (.string s) = .val (.string s) := rfl
theorem ofConst_nilsl : ofConst (.slice none 0 0) = .nilsl := rfl
theorem opnd_tmp (env : Env) (t : Nat) : opnd Γ env (.tmp t) = env.getD t .any := rfl
theorem opnd_const (env : Env) (v : Value) : opnd Γ env (.const v) = ofConst v := rfl
theorem opnd_func (env : Env) (f : FuncId) : opnd Γ env (.func f) = .fn f [] := rfl
theorem aput_some (env : Env) (t : Nat) (v : AV) : aput env (some t) v = env.set t v := rfl
theorem aput_none (env : Env) (v : AV) : aput env none v = env := rfl
theorem wanted_none (ops : Array Oper) (env : Env) (d : Option Tmp) (op : Op) (ty : TypeId) (pos : String) (af : Array Edge) : aWanted ops env ⟨d, op, ty, pos, af, none⟩ = some true := rfl
theorem wanted_some (ops : Array Oper) (env : Env) (d : Option Tmp) (op : Op) (ty : TypeId) (pos : String) (af : Array Edge) (j : Nat) (w : Bool) : aWanted ops env ⟨d, op, ty, pos, af, some (j, w)⟩ = (aYield ops env j).map (· == some w) := rfl
attribute [go_sem] one_int one_bool one_str one_nilp one_nilsl one_sl one_slo one_osl one_ref one_er one_fn one_mapo cells_agg cells_val cells_nilsl cells_sl cells_slo cells_osl cells_ref cells_er cells_fn cells_mapo newVar_eq app_get app_get0 app_set app_set0 app_take get_zero get_succ load_er off_er off_ref at_sl at_slo at_osl len_nilsl len_sl len_slo len_osl len_str bin_add bin_sub bin_mul bin_eql bin_neq bin_lss bin_leq bin_gtr bin_geq bin_rem bin_quo bin_seql bin_sneq un_not un_neg ofConst_int ofConst_bool ofConst_str ofConst_nilsl opnd_tmp opnd_const opnd_func aput_some aput_none wanted_none wanted_some ARun aop aBuiltin List.getD_cons_zero List.getD_cons_succ List.set_cons_zero List.set_cons_succ List.all_cons List.all_nil List.map_cons List.map_nil List.cons_append List.nil_append List.append_assoc List.length_append List.length_cons List.length_nil List.drop_succ_cons List.drop_zero List.take_succ_cons List.take_zero Option.map_some Bool.and_self Bool.and_true Bool.true_and
end Go.Proofs.Ev

