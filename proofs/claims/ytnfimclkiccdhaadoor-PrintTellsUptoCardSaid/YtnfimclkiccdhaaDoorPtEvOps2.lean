import Derived.Laws.StructEq
import Derived.Test.YtnfimclkiccdhaaDoorPtEvOps
/-! Operations that turn nothing. -/
namespace Go.Proofs.Ev
set_option linter.unusedSimpArgs false
set_option linter.unusedVariables false
open Go
variable {P : Program}

def aFieldAddr (P : Program) (S : TypeId) (f : Nat) (p : AV) : Option AV :=
  match P.underlying S with
  | some (.struct fs) => match fs[f]? with
    | some fd => match P.info? fd.type with
      | some i => if i.size = 0 then none else match p with
        | .er cs => some (.er (cs.drop fd.offset))
        | .ref o off => some (.ref o (off + fd.offset))
        | _ => none
      | none => none
    | none => none
  | _ => none
theorem aFieldAddr_ok {C : Ctx} {S : TypeId} {f : Nat} {p v : AV} {x : Value} (hp : RelV C p x) (h : aFieldAddr P S f p = some v) : ∃ y, (Instr.fieldAt S x f).run P C.w = .ok y C.w ∧ RelV C v y := by
  unfold aFieldAddr at h
  split at h <;> try (simp at h; done)
  rename_i fs hS
  split at h <;> try (simp at h; done)
  rename_i fd hf
  split at h <;> try (simp at h; done)
  rename_i i hi
  split at h <;> try (simp at h; done)
  rename_i hz
  cases p with
  | er cs =>
    obtain ⟨b, off, rfl, hr⟩ := hp
    simp at h
    subst h
    refine ⟨.pointer (some ⟨b, off + fd.offset, none⟩), ?_, ⟨b, off + fd.offset, rfl, relAt_drop fd.offset hr⟩⟩
    simp [Instr.fieldAt, run_underlying hS, hf, Instr.sureAddr, fieldPlace, sizeOf, typeInfo, hi, hz, add_lit]
  | ref o off =>
    obtain ⟨ho, rfl⟩ := hp
    simp at h
    subst h
    refine ⟨.pointer (some ⟨C.φ o, off + fd.offset, none⟩), ?_, ⟨ho, rfl⟩⟩
    simp [Instr.fieldAt, run_underlying hS, hf, Instr.sureAddr, fieldPlace, sizeOf, typeInfo, hi, hz, add_lit]
  | _ => simp at h

def aIndexAddr (P : Program) (T : TypeId) (x i : AV) : Option AV :=
  match P.underlying T with
  | some (.slice e) => match P.info? e with
    | some ie => match x, i with
      | .sl sz es, .val (.int _ n) => if sz = ie.size ∧ 0 ≤ n ∧ n < es.length then some (.er (es.getD n.toNat .any).cells) else none
      | .slo _ sz es _, .val (.int _ n) => if sz = ie.size ∧ 0 ≤ n ∧ n < es.length then some (.er (es.getD n.toNat .any).cells) else none
      | .osl o off len sz, .val (.int _ n) => if sz = ie.size ∧ 0 ≤ n ∧ n < len then some (.ref o (off + n.toNat * sz)) else none
      | _, _ => none
    | none => none
  | some (.array len e) => match P.info? e with
    | some ie => match x, i with
      | .ref o off, .val (.int _ n) => if 0 ≤ n ∧ n < len then some (.ref o (off + n.toNat * ie.size)) else none
      | _, _ => none
    | none => none
  | _ => none
theorem aIndexAddr_ok {C : Ctx} {T : TypeId} {p q v : AV} {x y : Value} (hp : RelV C p x) (hq : RelV C q y) (h : aIndexAddr P T p q = some v) : ∃ z, (Instr.indexAt T x y).run P C.w = .ok z C.w ∧ RelV C v z := by
  unfold aIndexAddr at h
  split at h <;> try (simp at h; done)
  · skip
    rename_i e hT
    split at h <;> try (simp at h; done)
    rename_i ie hie
    split at h <;> try (simp at h; done)
    · rename_i sz es k n
      split at h <;> try (simp at h; done)
      rename_i hc
      obtain ⟨rfl, h0, hn⟩ := hc
      cases h
      obtain ⟨b, off, c, s, rfl, hs, _, _, hr⟩ := hp
      obtain rfl : s = none := hs.resolve_left (fun e => by subst e; simp at hn; omega)
      cases hq
      have hlt : n.toNat < es.length := by omega
      obtain ⟨g1, g2⟩ := relRow_get (j := n.toNat) (e := es[n.toNat]) hr (by simp [hlt])
      refine ⟨.pointer (some ⟨b, off + n.toNat * ie.size, none⟩), ?_, ⟨b, _, rfl, ?_⟩⟩
      · simp [Instr.indexAt, run_underlying hT, asIntOf, sizeOf, typeInfo, hie, h0, hn, add_lit]
      · rw [List.getD_eq_getElem?_getD, List.getElem?_eq_getElem hlt]
        exact g2
    · rename_i nl sz es k' k n
      split at h <;> try (simp at h; done)
      rename_i hc
      obtain ⟨rfl, h0, hn⟩ := hc
      cases h
      obtain ⟨_, _, _, _, _, h5⟩ := hp
      obtain ⟨b, off, c, rfl, _, _, _, hr⟩ := h5 (fun e => by subst e; simp at hn; omega)
      cases hq
      have hlt : n.toNat < es.length := by omega
      obtain ⟨g1, g2⟩ := relRow_get (j := n.toNat) (e := es[n.toNat]) hr (by simp [hlt])
      refine ⟨.pointer (some ⟨b, off + n.toNat * ie.size, none⟩), ?_, ⟨b, _, rfl, ?_⟩⟩
      · simp [Instr.indexAt, run_underlying hT, asIntOf, sizeOf, typeInfo, hie, h0, hn, add_lit]
      · rw [List.getD_eq_getElem?_getD, List.getElem?_eq_getElem hlt]
        exact g2
    · rename_i o off len sz k n
      split at h <;> try (simp at h; done)
      rename_i hc
      obtain ⟨rfl, h0, hn⟩ := hc
      cases h
      obtain ⟨ho, c, arr, U, fr, rfl, _⟩ := hp
      cases hq
      refine ⟨.pointer (some ⟨C.φ o, off + n.toNat * ie.size, none⟩), ?_, ⟨ho, rfl⟩⟩
      simp [Instr.indexAt, run_underlying hT, asIntOf, sizeOf, typeInfo, hie, h0, hn, add_lit]
  · rename_i len e hT
    split at h <;> try (simp at h; done)
    rename_i ie hie
    split at h <;> try (simp at h; done)
    rename_i o off k n
    split at h <;> try (simp at h; done)
    rename_i hc
    obtain ⟨h0, hn⟩ := hc
    cases h
    obtain ⟨ho, rfl⟩ := hp
    cases hq
    refine ⟨.pointer (some ⟨C.φ o, off + n.toNat * ie.size, none⟩), ?_, ⟨ho, rfl⟩⟩
    simp [Instr.indexAt, run_underlying hT, asIntOf, sizeOf, typeInfo, hie, h0, hn, add_lit, Instr.sureAddr, asAddr]

/-- A part of a struct's value. -/
def aPart (P : Program) (t : TypeId) (cs : List AV) (off : Nat) : Option AV :=
  match P.underlying t, P.info? t with
  | some d, some i => if isAggD d then some (.agg ((cs.drop off).take i.size)) else cs[off]?
  | _, _ => none
theorem aPart_ok {C : Ctx} {t : TypeId} {cs : List AV} {xs : List Value} {off : Nat} {v : AV} (hl : RelL C cs xs) (h : aPart P t cs off = some v) : ∃ y, (part t xs.toArray off).run P C.w = .ok y C.w ∧ RelV C v y := by
  unfold aPart at h
  split at h <;> try (simp at h; done)
  rename_i d i hu hi
  have hagg : (isAgg t).run P C.w = .ok (isAggD d) C.w := by
    unfold isAgg
    rw [Sem.run_bind, run_underlying hu]
    cases d <;> simp [isAggD]
  split at h
  · rename_i hd
    cases h
    refine ⟨.agg ((xs.drop off).take i.size).toArray, ?_, ⟨_, rfl, relL_take _ (relL_drop _ hl)⟩⟩
    simp [part, hagg, hd, sizeOf, typeInfo, hi, List.extract_eq_take_drop]
  · rename_i hd
    obtain ⟨y, h1, h2⟩ := relL_get hl h
    refine ⟨y, ?_, h2⟩
    simp [part, hagg, hd, h1]
def aField (P : Program) (S : TypeId) (f : Nat) : AV → Option AV
  | .agg cs => match P.underlying S with
    | some (.struct fs) => match fs[f]? with
      | some fd => aPart P fd.type cs fd.offset
      | none => none
    | _ => none
  | _ => none
theorem aField_ok {C : Ctx} {S : TypeId} {f : Nat} {p v : AV} {x : Value} (hp : RelV C p x) (h : aField P S f p = some v) : ∃ y, (Instr.field S x f).run P C.w = .ok y C.w ∧ RelV C v y := by
  cases p with
  | agg cs =>
    simp only [aField] at h
    split at h <;> try (simp at h; done)
    rename_i fs hS
    split at h <;> try (simp at h; done)
    rename_i fd hf
    obtain ⟨xs, rfl, hl⟩ := hp
    obtain ⟨y, h1, h2⟩ := aPart_ok hl h
    exact ⟨y, by simpa [Instr.field, run_underlying hS, hf, asAgg] using h1, h2⟩
  | _ => simp [aField] at h

def aExtract (ix : Nat) : AV → Option AV
  | .tup cs => cs[ix]?
  | _ => none
theorem aExtract_ok {C : Ctx} {ix : Nat} {p v : AV} {x : Value} (hp : RelV C p x) (h : aExtract ix p = some v) : ∃ y, (Instr.extract x ix).run P C.w = .ok y C.w ∧ RelV C v y := by
  cases p with
  | tup cs =>
    obtain ⟨xs, rfl, hl⟩ := hp
    obtain ⟨y, h1, h2⟩ := relL_get hl h
    exact ⟨y, by simp [Instr.extract, h1], h2⟩
  | _ => simp [aExtract] at h

def tyBool (P : Program) (T : TypeId) : Bool := match P.underlying T with | some .bool => true | _ => false
def tyStr (P : Program) (T : TypeId) : Bool := match P.underlying T with | some .string => true | _ => false
def tyPtr (P : Program) (T : TypeId) : Bool := match P.underlying T with | some (.pointer _) => true | _ => false
theorem of_tyPtr {T : TypeId} (h : tyPtr P T = true) : ∃ e, P.underlying T = some (.pointer e) := by
  unfold tyPtr at h
  split at h
  · exact ⟨_, by assumption⟩
  · cases h
theorem of_tyBool {T : TypeId} (h : tyBool P T = true) : P.underlying T = some .bool := by
  unfold tyBool at h
  split at h
  · assumption
  · cases h
theorem of_tyStr {T : TypeId} (h : tyStr P T = true) : P.underlying T = some .string := by
  unfold tyStr at h
  split at h
  · assumption
  · cases h
def aIndex (P : Program) (T : TypeId) : AV → AV → Option AV
  | .val (.string s), .val (.int _ n) => if tyStr P T = true ∧ 0 ≤ n then (s[n.toNat]?).map fun b => .val (.int .u8 b.toNat) else none
  | _, _ => none
theorem aIndex_ok {C : Ctx} {T : TypeId} {p q v : AV} {x y : Value} (hp : RelV C p x) (hq : RelV C q y) (h : aIndex P T p q = some v) : ∃ z, (Instr.index T x y).run P C.w = .ok z C.w ∧ RelV C v z := by
  unfold aIndex at h
  split at h <;> try (simp at h; done)
  split at h <;> try (simp at h; done)
  rename_i s k n hc
  obtain ⟨hT, h0⟩ := hc
  obtain ⟨b, hb, rfl⟩ := Option.map_eq_some_iff.1 h
  cases hp
  cases hq
  exact ⟨_, by simp [Instr.index, asIntOf, run_underlying (of_tyStr hT), h0, hb], rfl⟩

def aUn (op : UnOp) : AV → Option AV
  | .val (.bool b) => if op = .not then some (.val (.bool !b)) else none
  | .val (.int k n) => if op = .neg then some (.val (.int k (k.wrap (0 - n)))) else none
  | _ => none
theorem aUn_ok {C : Ctx} {op : UnOp} {p v : AV} {x : Value} (hp : RelV C p x) (h : aUn op p = some v) : ∃ y, (Op.unary op x).run P C.w = .ok y C.w ∧ RelV C v y := by
  unfold aUn at h
  split at h <;> try (simp at h; done)
  · cases hp
    split at h <;> try (simp at h; done)
    rename_i b ho
    cases h
    subst ho
    exact ⟨_, rfl, rfl⟩
  · cases hp
    split at h <;> try (simp at h; done)
    rename_i k n ho
    cases h
    subst ho
    exact ⟨_, rfl, rfl⟩

theorem equalIn_bool {T : TypeId} (hT : P.underlying T = some .bool) (d : Nat) (a b : Bool) (w : World) : (Op.equalIn (d + 1) T (.bool a) (.bool b)).run P w = .ok (a == b) w := by
  simp [Op.equalIn, run_underlying hT]
theorem equalIn_ptr {T E : TypeId} (hT : P.underlying T = some (.pointer E)) (d : Nat) (a b : Option Addr) (w : World) (h : a = none ∨ b = none) :
    (Op.equalIn (d + 1) T (.pointer a) (.pointer b)).run P w = .ok (a.isNone && b.isNone) w := by
  cases a <;> cases b <;> simp [Op.equalIn, run_underlying hT] at h ⊢

def aInt (op : BinOp) (k : IntKind) (a b : Int) : Option Value :=
  match op with
  | .add => some (.int k (k.wrap (a + b)))
  | .sub => some (.int k (k.wrap (a - b)))
  | .mul => some (.int k (k.wrap (a * b)))
  | .quo => if b = 0 then none else some (.int k (k.wrap (a.tdiv b)))
  | .rem => if b = 0 then none else some (.int k (a.tmod b))
  | .and => some (.int k (bits .and k a b))
  | .or => some (.int k (bits .or k a b))
  | .xor => some (.int k (bits .xor k a b))
  | .andNot => some (.int k (bits .andNot k a b))
  | .eql => some (.bool (a == b))
  | .neq => some (.bool (a != b))
  | .lss => some (.bool (a < b))
  | .leq => some (.bool (a ≤ b))
  | .gtr => some (.bool (a > b))
  | .geq => some (.bool (a ≥ b))
  | _ => none
def aShift (op : BinOp) (k : IntKind) (x y : Int) : Option Value :=
  if y < 0 then none else match op with
  | .shl => some (.int k (k.wrap (x * 2 ^ (min y.toNat k.bits))))
  | .shr => some (.int k (x.fdiv (2 ^ (min y.toNat k.bits))))
  | _ => none
def aStr (op : BinOp) (x y : ByteArray) : Option Value :=
  match op with
  | .add => if ((x.size + y.size : Nat) : Int) > IntKind.i64.max then none else some (.string (x ++ y))
  | .eql => some (.bool (x.toList == y.toList))
  | .neq => some (.bool !(x.toList == y.toList))
  | .lss => some (.bool (Op.bytesLess x.toList y.toList))
  | _ => none
/-- Two scalars are the same. -/
def aSame : AV → AV → Option Bool
  | .val (.int k a), .val (.int k' b) => if k = k' then some (a == b) else none
  | .val (.string a), .val (.string b) => some (a == b)
  | .val (.bool a), .val (.bool b) => some (a == b)
  | _, _ => none
/-- Field by field. -/
def aEqF (P : Program) (eq : TypeId → AV → AV → Option Bool) (cs ds : List AV) : List Field → Option Bool
  | [] => some true
  | f :: fs => if f.name = "_" then none else match aPart P f.type cs f.offset, aPart P f.type ds f.offset with
    | some x, some y => match eq f.type x y, aEqF P eq cs ds fs with
      | some b, some b' => some (b && b')
      | _, _ => none
    | _, _ => none
/-- Two values of a type are the same. -/
def aEqD (P : Program) : Nat → TypeId → AV → AV → Option Bool
  | 0, _, _, _ => none
  | d + 1, t, x, y => match P.underlying t, x, y with
    | some .bool, .val (.bool a), .val (.bool b) => some (a == b)
    | some (.int _), .val (.int k a), .val (.int k' b) => if k = k' then some (a == b) else none
    | some .string, .val (.string a), .val (.string b) => some (a == b)
    | some (.struct fs), .agg cs, .agg ds => if P.stoodInHeld t = true then none else aEqF P (aEqD P d) cs ds fs.toList
    | _, _, _ => none
theorem aEqF_ok {C : Ctx} {eq : TypeId → AV → AV → Option Bool} {e : Nat} (hq : ∀ t p q x y b, eq t p q = some b → RelV C p x → RelV C q y → (Op.equalIn e t x y).run P C.w = .ok b C.w)
    {cs ds : List AV} {xs ys : List Value} (h1 : RelL C cs xs) (h2 : RelL C ds ys) : ∀ {fs : List Field} {b : Bool}, aEqF P eq cs ds fs = some b → (Op.eqFields e xs.toArray ys.toArray fs).run P C.w = .ok b C.w
  | [], b, h => by
    simp only [aEqF, Option.some.injEq] at h
    subst h
    rfl
  | f :: fs, b, h => by
    simp only [aEqF] at h
    split at h <;> try (simp at h; done)
    rename_i hn
    split at h <;> try (simp at h; done)
    rename_i p q hp hq'
    split at h <;> try (simp at h; done)
    rename_i b1 b2 hb1 hb2
    cases h
    obtain ⟨x, g1, g2⟩ := aPart_ok h1 hp
    obtain ⟨y, g3, g4⟩ := aPart_ok h2 hq'
    have g5 := hq _ _ _ _ _ _ hb1 g2 g4
    simp only [Op.eqFields]
    rw [if_pos hn]
    simp only [Sem.run_bind, g1, g3, g5, Result.andThen_ok]
    cases b1
    · rfl
    · simpa using aEqF_ok hq h1 h2 hb2
theorem aEqD_ok {C : Ctx} : ∀ (d e : Nat) (t : TypeId) (p q : AV) (x y : Value) (b : Bool), d ≤ e → aEqD P d t p q = some b → RelV C p x → RelV C q y → (Op.equalIn e t x y).run P C.w = .ok b C.w
  | 0, _, _, _, _, _, _, _, _, h, _, _ => by simp [aEqD] at h
  | d + 1, 0, _, _, _, _, _, _, he, _, _, _ => by omega
  | d + 1, e + 1, t, p, q, x, y, b, he, h, hp, hq => by
    unfold aEqD at h
    split at h <;> try (simp at h; done)
    · rename_i ht
      cases hp
      cases hq
      cases h
      exact equalIn_bool ht e _ _ C.w
    · rename_i ht
      cases hp
      cases hq
      split at h <;> try (simp at h; done)
      rename_i hk
      subst hk
      cases h
      exact run_equalIn_int C.w e t _ _ _ _ ht
    · rename_i ht
      cases hp
      cases hq
      cases h
      rw [beq_toListBytes]
      exact run_equalIn_string C.w e t _ _ ht
    · rename_i fs cs ds ht
      split at h <;> try (simp at h; done)
      rename_i hs
      obtain ⟨xs, rfl, h1⟩ := hp
      obtain ⟨ys, rfl, h2⟩ := hq
      have hf : P.fieldsOf t = fs := by simp [Program.fieldsOf, ht]
      rw [run_equalIn_struct C.w e t _ _ (by rw [hf]; exact ht) (by simpa using hs), hf]
      exact aEqF_ok (fun t p q x y b hb hp hq => aEqD_ok d e t p q x y b (by omega) hb hp hq) h1 h2 h
def aBin (P : Program) (op : BinOp) (T : TypeId) (x y : AV) : Option AV :=
  match x, y with
  | .val (.int k a), .val (.int k' b) => match op with
    | .shl | .shr => (aShift op k a b).map .val
    | _ => if k = k' then (aInt op k a b).map .val else none
  | .val (.string a), .val (.string b) => (aStr op a b).map .val
  | .val (.bool a), .val (.bool b) => if tyBool P T = true then match op with
    | .eql => some (.val (.bool (a == b)))
    | .neq => some (.val (.bool !(a == b)))
    | _ => none else none
  | .agg cs, .agg ds => if P.eqGuardType P.depth T = true then none else match op with
    | .eql => (aEqD P 6 T (.agg cs) (.agg ds)).map fun b => .val (.bool b)
    | .neq => (aEqD P 6 T (.agg cs) (.agg ds)).map fun b => .val (.bool !b)
    | _ => none
  | .ref _ _, .val (.pointer none) => if tyPtr P T = true then match op with
    | .eql => some (.val (.bool false))
    | .neq => some (.val (.bool true))
    | _ => none else none
  | .val (.pointer none), .val (.pointer none) => if tyPtr P T = true then match op with
    | .eql => some (.val (.bool true))
    | .neq => some (.val (.bool false))
    | _ => none else none
  | _, _ => none
theorem aBin_ok {C : Ctx} {op : BinOp} {T : TypeId} {p q v : AV} {x y : Value} {X Y : Operand} (hp : RelV C p x) (hq : RelV C q y) (h : aBin P op T p q = some v) :
    ∃ z, (do eqGuard op T X Y x y; binOp op T x y : Sem Value).run P C.w = .ok z C.w ∧ RelV C v z := by
  unfold aBin at h
  split at h <;> try (simp at h; done)
  · rename_i k a k' b
    cases hp
    cases hq
    have hg : (eqGuard op T X Y (.int k a) (.int k' b)).run P C.w = .ok () C.w := by
      unfold eqGuard
      cases op <;> simp
    have shift : ∀ {u}, aShift op k a b = some u → (Op.shift op k a k' b).run P C.w = .ok u C.w := by
      intro u hu
      unfold aShift at hu
      unfold Op.shift
      split at hu <;> try (simp at hu; done)
      rename_i hb
      simp only [hb, if_false]
      cases op <;> simp at hu ⊢ <;> exact hu
    have plain : ∀ {u}, k = k' → op ≠ .shl → op ≠ .shr → aInt op k a b = some u → (binOp op T (.int k a) (.int k' b)).run P C.w = .ok u C.w := by
      intro u hk h1 h2 hu
      subst hk
      cases op <;> simp [aInt] at hu h1 h2 <;> try (subst hu; simp [binOp, Op.intArith, Op.intCmp, intBits_and, intBits_or, intBits_xor, intBits_andNot]; done)
      · obtain ⟨hb, rfl⟩ := hu
        simp [binOp, Op.intDiv, hb]
      · obtain ⟨hb, rfl⟩ := hu
        simp [binOp, Op.intDiv, hb]
    cases op
    case shl =>
      obtain ⟨u, hu, rfl⟩ := Option.map_eq_some_iff.1 h
      exact ⟨u, by simp only [Sem.run_bind, hg, Result.andThen_ok]; exact shift hu, rfl⟩
    case shr =>
      obtain ⟨u, hu, rfl⟩ := Option.map_eq_some_iff.1 h
      exact ⟨u, by simp only [Sem.run_bind, hg, Result.andThen_ok]; exact shift hu, rfl⟩
    all_goals
      simp only at h
      split at h <;> try (simp at h; done)
      rename_i hk
      obtain ⟨u, hu, rfl⟩ := Option.map_eq_some_iff.1 h
      exact ⟨u, by simp only [Sem.run_bind, hg, Result.andThen_ok]; exact plain hk (by simp) (by simp) hu, rfl⟩
  · rename_i a b
    cases hp
    cases hq
    obtain ⟨u, hu, rfl⟩ := Option.map_eq_some_iff.1 h
    have hg : (eqGuard op T X Y (.string a) (.string b)).run P C.w = .ok () C.w := by
      unfold eqGuard
      cases op <;> simp
    refine ⟨u, ?_, rfl⟩
    simp only [Sem.run_bind, hg, Result.andThen_ok]
    cases op <;> simp only [aStr] at hu <;> try (simp at hu; done)
    case add =>
      split at hu <;> try (simp at hu; done)
      rename_i hs
      cases hu
      simp only [binOp, Op.stringOp]
      rw [if_neg hs]
      rfl
    all_goals
      cases hu
      simp [binOp, Op.stringOp]
  · rename_i a b
    cases hp
    cases hq
    split at h <;> try (simp at h; done)
    rename_i hT
    have hT := of_tyBool hT
    have hg : (eqGuard op T X Y (.bool a) (.bool b)).run P C.w = .ok () C.w := by
      unfold eqGuard
      cases op <;> simp
    have he : (Op.equal T (.bool a) (.bool b)).run P C.w = .ok (a == b) C.w := by
      exact equalIn_bool hT 9999 a b C.w
    cases op <;> simp at h
    · subst h
      exact ⟨.bool (a == b), by simp only [Sem.run_bind, hg, Result.andThen_ok]; simp [binOp, he], rfl⟩
    · subst h
      exact ⟨.bool (!(a == b)), by simp only [Sem.run_bind, hg, Result.andThen_ok]; simp [binOp, he], rfl⟩
  · rename_i cs ds
    split at h <;> try (simp at h; done)
    rename_i hm
    obtain ⟨xs, rfl, h1⟩ := hp
    obtain ⟨ys, rfl, h2⟩ := hq
    have hg := run_eqGuard_agg C.w op T X Y xs.toArray ys.toArray (by simpa using hm)
    split at h <;> try (simp at h; done)
    · obtain ⟨b, hb, rfl⟩ := Option.map_eq_some_iff.1 h
      have := aEqD_ok (C := C) 6 10000 T _ _ _ _ b (by omega) hb ⟨xs, rfl, h1⟩ ⟨ys, rfl, h2⟩
      exact ⟨.bool b, by simp only [Sem.run_bind, hg, Result.andThen_ok, run_eql_struct, this], rfl⟩
    · obtain ⟨b, hb, rfl⟩ := Option.map_eq_some_iff.1 h
      have := aEqD_ok (C := C) 6 10000 T _ _ _ _ b (by omega) hb ⟨xs, rfl, h1⟩ ⟨ys, rfl, h2⟩
      exact ⟨.bool !b, by simp only [Sem.run_bind, hg, Result.andThen_ok, run_neq_struct, this], rfl⟩
  · split at h <;> try (simp at h; done)
    rename_i hT
    obtain ⟨e, hT⟩ := of_tyPtr hT
    obtain ⟨_, rfl⟩ := hp
    cases hq
    have he : ∀ a, (Op.equal T (.pointer (some a)) (.pointer none)).run P C.w = .ok false C.w := fun a => equalIn_ptr hT 9999 _ _ _ (.inr rfl)
    have hg : ∀ a, (eqGuard op T X Y (.pointer (some a)) (.pointer none)).run P C.w = .ok () C.w := fun a => by
      unfold eqGuard
      cases op <;> simp
    split at h <;> try (simp at h; done)
    · cases h
      exact ⟨.bool false, by simp only [Sem.run_bind, hg, Result.andThen_ok, binOp, he]; rfl, rfl⟩
    · cases h
      exact ⟨.bool true, by simp only [Sem.run_bind, hg, Result.andThen_ok, binOp, he]; rfl, rfl⟩
  · split at h <;> try (simp at h; done)
    rename_i hT
    obtain ⟨e, hT⟩ := of_tyPtr hT
    cases hp
    cases hq
    have he : (Op.equal T (.pointer none) (.pointer none)).run P C.w = .ok true C.w := equalIn_ptr hT 9999 _ _ _ (.inr rfl)
    have hg : (eqGuard op T X Y (.pointer none) (.pointer none)).run P C.w = .ok () C.w := by
      unfold eqGuard
      cases op <;> simp
    split at h <;> try (simp at h; done)
    · cases h
      exact ⟨.bool true, by simp only [Sem.run_bind, hg, Result.andThen_ok, binOp, he]; rfl, rfl⟩
    · cases h
      exact ⟨.bool false, by simp only [Sem.run_bind, hg, Result.andThen_ok, binOp, he]; rfl, rfl⟩
end Go.Proofs.Ev

