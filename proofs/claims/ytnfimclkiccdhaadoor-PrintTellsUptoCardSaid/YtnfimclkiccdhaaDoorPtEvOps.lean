import Derived.Test.YtnfimclkiccdhaaDoorPtEvMem
/-! Single operations. -/
namespace Go.Proofs.Ev
set_option linter.unusedSimpArgs false
set_option linter.unusedVariables false
open Go
variable {P : Program}

/-- A value that stands in one cell, for sure. -/
def AV.one : AV → Bool
  | .any | .agg _ | .tup _ => false
  | .val v => v.oneCell'
  | _ => true
theorem one_ok {C : Ctx} {v : AV} {x : Value} (h : RelV C v x) (h1 : v.one = true) : x.oneCell' = true := by
  cases v with
  | any => cases h1
  | agg => cases h1
  | tup => cases h1
  | val v => cases h; exact h1
  | nilsl => cases h; rfl
  | sl sz es => obtain ⟨b, off, c, s, rfl, _⟩ := h; rfl
  | slf sz es => obtain ⟨b, rfl, _⟩ := h; rfl
  | slo nl sz es k =>
    obtain ⟨n, _, _, _, h4, h5⟩ := h
    by_cases he : es = []
    · obtain ⟨A, rfl, _⟩ := h4 he
      rfl
    · obtain ⟨b, off, c, rfl, _⟩ := h5 he
      rfl
  | er cs => obtain ⟨b, off, rfl, _⟩ := h; rfl
  | ref o off => obtain ⟨_, rfl⟩ := h; rfl
  | osl o off len sz => obtain ⟨_, c, arr, T, fr, rfl, _⟩ := h; rfl
  | fn f caps => obtain ⟨xs, rfl, _⟩ := h; rfl
  | mapo o => obtain ⟨_, rfl⟩ := h; rfl
  | yl o => obtain ⟨_, rfl⟩ := h; rfl
  | mapf ks vs => obtain ⟨b, es, c, rfl, _⟩ := h; rfl
  | ifc t v => obtain ⟨y, rfl, _⟩ := h; rfl
theorem ones_ok {C : Ctx} : ∀ {cs : List AV} {xs : List Value}, RelL C cs xs → cs.all AV.one = true → ∀ u ∈ xs, u.oneCell' = true
  | [], [], _, _, _, h => by cases h
  | c :: cs, x :: xs, hl, h1, u, hu => by
    simp only [List.all_cons, Bool.and_eq_true] at h1
    rcases List.mem_cons.1 hu with rfl | hu
    · exact one_ok hl.1 h1.1
    · exact ones_ok hl.2 h1.2 u hu
  | [], _ :: _, h, _, _, _ => h.elim
  | _ :: _, [], h, _, _, _ => h.elim
theorem cells_ok {C : Ctx} {v : AV} {x : Value} (h : RelV C v x) (h1 : v.cells.all AV.one = true) : RelL C v.cells x.cells.toList := by
  cases v with
  | agg cs =>
    obtain ⟨xs, rfl, hl⟩ := h
    simpa [AV.cells, Value.cells] using hl
  | any => simp [AV.cells, AV.one] at h1
  | tup cs => simp [AV.cells, AV.one] at h1
  | _ =>
    have ho := one_ok h (by simpa [AV.cells] using h1)
    have : x.cells = #[x] := by cases x <;> first | rfl | simp [Value.oneCell'] at ho
    rw [this]
    exact ⟨h, trivial⟩

def isAggD : TypeDesc → Bool
  | .struct _ | .array _ _ => true
  | _ => false
/-- What is loaded as a value of type T from these cells on. -/
def aGet (P : Program) (T : TypeId) (cs : List AV) : Option AV :=
  match P.underlying T, P.info? T with
  | some d, some i => match d with
    | .struct _ | .array _ _ => if i.size ≤ cs.length then some (.agg (cs.take i.size)) else none
    | _ => cs.head?
  | _, _ => none

theorem run_loadVar_one {w : World} {T : TypeId} {a : Addr} {d : TypeDesc} {v : Value} (hu : P.underlying T = some d) (hd : isAggD d = false) (hc : w.cell? a = some v) :
    (loadVar T a).run P w = .ok v w := by
  have hagg : (isAgg T).run P w = .ok false w := by
    unfold isAgg
    rw [Sem.run_bind, run_underlying hu w]
    cases d <;> simp_all [isAggD]
  unfold loadVar
  rw [Sem.run_bind, hagg]
  simp [run_load, hc]
theorem run_loadVar_many {w : World} {T : TypeId} {a : Addr} {d : TypeDesc} {i : TypeInfo} {xs : List Value} (hu : P.underlying T = some d) (hi : P.info? T = some i) (hd : isAggD d = true)
    (hn : i.size = xs.length) (hc : ∀ j u, xs[j]? = some u → w.cell? (a.add j) = some u) : (loadVar T a).run P w = .ok (.agg xs.toArray) w := by
  have hagg : (isAgg T).run P w = .ok true w := by
    unfold isAgg
    rw [Sem.run_bind, run_underlying hu w]
    cases d <;> simp_all [isAggD]
  unfold loadVar
  rw [Sem.run_bind, hagg]
  simp [sizeOf, typeInfo, hi, hn, run_loadCells_list (P := P) w a xs hc]

theorem load_ok {C : Ctx} {T : TypeId} {a : Addr} {cs : List AV} {xs : List Value} {v : AV} (hl : RelL C cs xs) (hc : ∀ j u, xs[j]? = some u → C.w.cell? (a.add j) = some u) (h : aGet P T cs = some v) :
    ∃ x, (loadVar T a).run P C.w = .ok x C.w ∧ RelV C v x := by
  unfold aGet at h
  split at h
  · rename_i d i hu hi
    have head (h : cs.head? = some v) (hd : isAggD d = false) : ∃ x, (loadVar T a).run P C.w = .ok x C.w ∧ RelV C v x := by
      cases cs with
      | nil => simp at h
      | cons c cs =>
        simp at h
        subst h
        cases xs with
        | nil => exact hl.elim
        | cons x xs =>
          refine ⟨x, run_loadVar_one hu hd ?_, hl.1⟩
          have := hc 0 x (by simp)
          simpa [Addr.add] using this
    have many (h : (if i.size ≤ cs.length then some (AV.agg (cs.take i.size)) else none) = some v) (hd : isAggD d = true) : ∃ x, (loadVar T a).run P C.w = .ok x C.w ∧ RelV C v x := by
      split at h
      · rename_i hn
        cases h
        have hlen := relL_length hl
        refine ⟨.agg (xs.take i.size).toArray, run_loadVar_many hu hi hd (by simp; omega) (fun j u hj => hc j u ?_), ⟨_, rfl, relL_take _ hl⟩⟩
        rw [List.getElem?_take] at hj
        split at hj
        · exact hj
        · simp at hj
      · simp at h
    cases d <;> first | exact many h rfl | exact head h rfl
  · simp at h

/-- A load through a pointer. -/
def aLoad (P : Program) (σ : List AO) (T : TypeId) : AV → Option AV
  | .er cs => aGet P T cs
  | .ref o off => match σ[o]? with
    | some (.cells cs) => aGet P T (cs.drop off)
    | _ => none
  | _ => none
theorem obj_cells {C : Ctx} (hS : RelS C) {o : Nat} {cs : List AV} (h : C.σ[o]? = some (.cells cs)) (off : Nat) :
    ∃ xs : List Value, RelL C (cs.drop off) xs ∧ (∀ j u, xs[j]? = some u → C.w.cell? ((⟨C.φ o, off, none⟩ : Addr).add j) = some u) ∧ ∀ u ∈ xs, u.oneCell' = true := by
  obtain ⟨arr, T, hb, hn, hl, h1⟩ := hS.cells o cs h
  refine ⟨(arr.toList.take cs.length).drop off, relL_drop off hl, ?_, fun u hu => h1 u (List.mem_of_mem_take (List.mem_of_mem_drop hu))⟩
  intro j u hj
  rw [List.getElem?_drop, List.getElem?_take] at hj
  split at hj
  · rw [add_lit, cell_of_row _ _ _ _ _ _ hb]
    simpa using hj
  · simp at hj
theorem aLoad_ok {C : Ctx} (hS : RelS C) {T : TypeId} {p v : AV} {x : Value} (hp : RelV C p x) (h : aLoad P C.σ T p = some v) : ∃ y, (Instr.loadAt T x).run P C.w = .ok y C.w ∧ RelV C v y := by
  cases p with
  | er cs =>
    obtain ⟨b, off, rfl, hr⟩ := hp
    obtain ⟨xs, k1, k2, _⟩ := relAt_list hr
    obtain ⟨y, h1, h2⟩ := load_ok (a := ⟨b, off, none⟩) k1 (fun j u hj => by rw [add_lit]; exact k2 j u hj) h
    exact ⟨y, by simpa [Instr.loadAt, Instr.sureAddr] using h1, h2⟩
  | ref o off =>
    obtain ⟨_, rfl⟩ := hp
    simp only [aLoad] at h
    split at h
    · rename_i cs hcs
      obtain ⟨xs, k1, k2, _⟩ := obj_cells hS hcs off
      obtain ⟨y, h1, h2⟩ := load_ok k1 k2 h
      exact ⟨y, by simpa [Instr.loadAt, Instr.sureAddr] using h1, h2⟩
    · simp at h
  | _ => simp [aLoad] at h

def aSplice (cs : List AV) (off : Nat) (ds : List AV) : List AV := cs.take off ++ ds ++ cs.drop (off + ds.length)
/-- A store through a pointer. -/
def aStore (P : Program) (σ : List AO) (T : TypeId) (v : AV) : AV → Option (List AO)
  | .ref o off => match σ[o]? with
    | some (.cells cs) => if (P.info? T).map (·.size) = some v.cells.length ∧ off + v.cells.length ≤ cs.length ∧ v.cells.all AV.one = true then some (σ.set o (.cells (aSplice cs off v.cells))) else none
    | _ => none
  | _ => none
theorem setRow_eq (w : World) (b : Nat) (old cs : Array Value) (T : TypeId) (fr : Nat × Nat) (h : w.heap[b]? = some (.cells old T fr)) : w.setRow b cs = setBlk w b (.cells cs T fr) := by
  have hlt := lt_of_heap h
  have he : w.heap[b] = .cells old T fr := by simpa [hlt] using h
  unfold World.setRow setBlk
  congr 1
  apply Array.ext'
  apply List.ext_getElem?
  intro k
  simp only [Array.getElem?_toList, Array.getElem?_modify, Array.getElem?_setIfInBounds]
  by_cases e : b = k
  · subst e
    simp [hlt, he]
  · simp [e]
theorem aStore_ok {C : Ctx} (hS : RelS C) {T : TypeId} {p v : AV} {x y : Value} {σ' : List AO} (hp : RelV C p x) (hv : RelV C v y) (h : aStore P C.σ T v p = some σ') :
    ∃ D : Ctx, (Instr.storeAt T x y).run P C.w = .ok () D.w ∧ D.σ = σ' ∧ Ext C D ∧ RelS D := by
  cases p with
  | ref o off =>
    obtain ⟨_, rfl⟩ := hp
    simp only [aStore] at h
    split at h
    · rename_i cs hcs
      split at h
      · rename_i hc
        obtain ⟨hsz, hfit, hone⟩ := hc
        cases h
        have hcl := cells_ok hv hone
        have hlen := relL_length hcl
        have h1 := ones_ok hcl hone
        obtain ⟨arr, U, hb, hn, hl, ha⟩ := hS.cells o cs hcs
        have hfit' : off + y.cells.toList.length ≤ arr.size := by rw [← hlen]; omega
        have hst := run_storeCells_at P (C.φ o) off U y.cells.toList 0 arr C.w hb (by simpa using hfit') h1
        let arr' : Array Value := (arr.toList.take off ++ y.cells.toList ++ arr.toList.drop (off + y.cells.toList.length)).toArray
        have hsz' : arr.size = arr'.size := by simp [arr']; simp at hfit'; omega
        have hput := put_cells (cs := aSplice cs off v.cells) (arr := arr') (T := U) hS hcs ⟨arr, hb, hsz'⟩ (by
            have e1 : (aSplice cs off v.cells).length = cs.length := by simp [aSplice]; omega
            have e2 : arr'.toList.take cs.length = (arr.toList.take cs.length).take off ++ y.cells.toList ++ (arr.toList.take cs.length).drop (off + v.cells.length) := by
              simp only [arr']
              rw [hlen]
              rw [List.take_append, List.take_append]
              simp only [List.length_append, List.length_take, List.take_take, List.drop_take]
              have hsz2 : arr.toList.length = arr.size := by simp
              have e3 : min off cs.length = off := by omega
              have e4 : min off arr.toList.length = off := by omega
              rw [e4, Nat.min_comm cs.length off, e3]
              rw [List.take_of_length_le (l := y.cells.toList) (by omega)]
            rw [e1, e2]
            exact relL_append (relL_append (relL_take _ hl) hcl) (relL_drop _ hl)) (by simp [aSplice, arr']; simp at hfit'; omega) (by
            intro u hu
            simp only [arr'] at hu
            rcases List.mem_append.1 hu with hu | hu
            · rcases List.mem_append.1 hu with hu | hu
              · exact ha u (List.mem_of_mem_take hu)
              · exact h1 u hu
            · exact ha u (List.mem_of_mem_drop hu))
        refine ⟨C.put o (.cells (aSplice cs off v.cells)) (.cells arr' U (0, 0)), ?_, rfl, hput.1, hput.2⟩
        have hinfo : ∃ i, P.info? T = some i ∧ i.size = v.cells.length := by
          cases hq : P.info? T with
          | none => simp [hq] at hsz
          | some i => exact ⟨i, rfl, by simpa [hq] using hsz⟩
        obtain ⟨i, hi, his⟩ := hinfo
        have hys : y.cells.size = i.size := by rw [his, hlen]; simp
        simp only [Nat.add_zero] at hst
        simp only [Instr.storeAt, Instr.sureAddr, storeVar, Sem.run_bind, Sem.run_pure, Result.andThen_ok, sizeOf, typeInfo]
        simp [hi, hys, hst, setRow_eq _ _ _ _ _ _ hb, Ctx.put, arr']
      · simp at h
    · simp at h
  | _ => simp [aStore] at h

/-- A new variable that holds a value. -/
theorem newVar_ok {C : Ctx} (hS : RelS C) {T : TypeId} {v : AV} {x : Value} (hv : RelV C v x) (h1 : v.cells.all AV.one = true) :
    ∃ D : Ctx, (newVar T x).run P C.w = .ok ⟨D.φ C.σ.length, 0, none⟩ D.w ∧ D.σ = C.σ ++ [.cells v.cells] ∧ Ext C D ∧ RelS D := by
  have hcl := cells_ok hv h1
  have hlen := relL_length hcl
  refine ⟨C.new (.cells v.cells) (.cells x.cells T), ?_, rfl, new_ext hS _ _, new_cells hS T (by rw [hlen, List.take_length]; exact hcl) (by rw [hlen]; simp) (ones_ok hcl h1)⟩
  rw [new_φ_at]
  simp [newVar, newRow, Ctx.new]

/-- A constant. -/
def ofCell : Value → AV
  | .slice none 0 0 => .nilsl
  | v => .val v
def ofConst : Value → AV
  | .agg cs => .agg (cs.toList.map ofCell)
  | v => ofCell v
theorem ofCell_ok (C : Ctx) (v : Value) : RelV C (ofCell v) v := by
  unfold ofCell
  split
  · rfl
  · rfl
theorem ofConst_ok (C : Ctx) (v : Value) : RelV C (ofConst v) v := by
  unfold ofConst
  split
  · rename_i cs
    refine ⟨cs.toList, by simp, ?_⟩
    generalize cs.toList = l
    induction l with
    | nil => trivial
    | cons a l ih => exact ⟨ofCell_ok C a, ih⟩
  · exact ofCell_ok C v

def opnd (Γ : List (Nat × List AV)) (env : List AV) : Operand → AV
  | .tmp t => env.getD t .any
  | .const v => ofConst v
  | .global g => match Γ.find? (·.1 == g) with
    | some x => .er x.2
    | none => .any
  | .func f => .fn f []
/-- A block is as long as a list. -/
def Whole (C : Ctx) (b n : Nat) : Prop := ∃ (arr : Array Value) (T : TypeId) (fr : Nat × Nat), C.w.heap[b]? = some (.cells arr T fr) ∧ arr.size = n
/-- The package variables: what they hold; one of two cells and more is known whole. -/
def RelG (C : Ctx) (Γ : List (Nat × List AV)) : Prop := ∀ x ∈ Γ, RelAt C x.2 x.1 0 ∧ (2 ≤ x.2.length → Whole C x.1 x.2.length)
theorem RelG.mono {C D : Ctx} {Γ : List (Nat × List AV)} (h : Ext C D) (hg : RelG C Γ) : RelG D Γ := fun x hx => ⟨RelAt.mono h (hg x hx).1, fun h2 => by
  obtain ⟨arr, T, fr, h3, h4⟩ := (hg x hx).2 h2
  obtain ⟨arr', fr', g3, g4⟩ := h.shape _ _ _ _ h3
  exact ⟨arr', T, fr', g3, g4.trans h4⟩⟩
theorem opnd_ok {C : Ctx} {Γ : List (Nat × List AV)} {env : List AV} {a : Act} (hg : RelG C Γ) (he : RelL C env a.tmps.toList) (x : Operand) : RelV C (opnd Γ env x) (a.eval x) := by
  cases x with
  | tmp t =>
    simp only [opnd, Act.eval]
    by_cases ht : t < env.length
    · have hlen := relL_length he
      obtain ⟨y, hy, hr⟩ := relL_get he (i := t) (c := env[t]) (by simp [ht])
      rw [List.getD_eq_getElem?_getD, List.getElem?_eq_getElem ht]
      have : a.tmps.getD t undef = y := by
        rw [Array.getD_eq_getD_getElem?]
        rw [Array.getElem?_toList] at hy
        rw [hy]
        rfl
      rw [this]
      exact hr
    · have hge : env.length ≤ t := Nat.le_of_not_lt ht
      rw [List.getD_eq_getElem?_getD, List.getElem?_eq_none hge]
      exact trivial
  | const v => exact ofConst_ok C v
  | global g =>
    simp only [opnd, Act.eval]
    split
    · rename_i x hx
      have hm := List.mem_of_find?_eq_some hx
      have he := List.find?_some hx
      simp at he
      exact ⟨g, 0, rfl, by rw [← he]; exact (hg x hm).1⟩
    · exact trivial
  | func f => exact ⟨[], rfl, trivial⟩
end Go.Proofs.Ev

