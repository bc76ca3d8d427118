import Derived.Lib.FrozenHead
import Derived.Test.YtnfimclkiccdhaaDoorPtEvOps2
import Derived.Room.Entries
/-! append. -/
namespace Go.Proofs.Ev
set_option linter.unusedSimpArgs false
set_option linter.unusedVariables false
open Go
variable {P : Program}

theorem relRow_append {C : Ctx} : ∀ {es ds : List AV} {b off sz : Nat}, RelRow C es b off sz → RelRow C ds b (off + es.length * sz) sz → RelRow C (es ++ ds) b off sz
  | [], _, _, _, _, _, h => by simpa using h
  | e :: es, ds, b, off, sz, h, k => by
    obtain ⟨h1, h2, h3⟩ := relRow_cons.1 h
    refine relRow_cons.2 ⟨h1, h2, relRow_append h3 ?_⟩
    simp only [List.length_cons, Nat.add_mul, Nat.one_mul] at k
    rw [Nat.add_assoc, Nat.add_comm sz]
    exact k
theorem relRow_sizes {C : Ctx} : ∀ {es : List AV} {b off sz : Nat}, RelRow C es b off sz → ∀ e ∈ es, e.cells.length = sz
  | [], _, _, _, _, _, h => by cases h
  | _ :: _, _, _, _, h, e, he => by
    obtain ⟨h1, _, h3⟩ := relRow_cons.1 h
    rcases List.mem_cons.1 he with rfl | he
    · exact h1
    · exact relRow_sizes h3 e he

theorem slf_sl {C : Ctx} {sz : Nat} {es : List AV} {x : Value} (h : RelV C (.slf sz es) x) : RelV C (.sl sz es) x := by
  obtain ⟨b, e, _, _, h2, hr⟩ := h
  exact ⟨b, 0, es.length, none, e, .inr rfl, Nat.le_refl _, h2, hr⟩
/-- What is appended: how many elements, and their cells. -/
def aSrc (P : Program) (σ : List AO) (tx : TypeId) (size : Nat) (x : AV) : Option (Nat × List AV) :=
  match P.underlying tx with
  | some (.slice _) => match x with
    | .nilsl => some (0, [])
    | .sl sz es => if sz = size then some (es.length, es.flatMap AV.cells) else none
    | .slo _ sz es _ => if sz = size then some (es.length, es.flatMap AV.cells) else none
    | .osl o off len sz => match σ[o]? with
      | some (.cells cs) => if sz = size ∧ off + len * sz ≤ cs.length then some (len, (cs.drop off).take (len * sz)) else none
      | _ => none
    | _ => none
  | some .string => match x with
    | .val (.string s) => if size = 1 then some (s.size, s.data.toList.map fun b => .val (.int .u8 b.toNat)) else none
    | _ => none
  | _ => none
theorem aSrc_ok {C : Ctx} (hS : RelS C) {tx : TypeId} {size n : Nat} {p : AV} {x : Value} {ds : List AV} (hp : RelV C p x) (h : aSrc P C.σ tx size p = some (n, ds)) :
    ∃ news : List Value, Src P size tx x n news C.w ∧ RelL C ds news := by
  unfold aSrc at h
  split at h <;> try (simp at h; done)
  · rename_i E hk
    split at h <;> try (simp at h; done)
    · cases h
      cases hp
      exact ⟨[], Src.ofNil C.w hk 0, trivial⟩
    · split at h <;> try (simp at h; done)
      rename_i sz es hsz
      cases h
      subst hsz
      obtain ⟨b, off, c, s, rfl, hs, _, _, hr⟩ := hp
      rcases Classical.em (es = []) with he | he
      · subst he
        exact ⟨[], Src.ofSlice C.w hk _ 0 c [] (by simp) (by simp) (by simp), trivial⟩
      obtain rfl : s = none := hs.resolve_left he
      obtain ⟨k1, k2⟩ := relRow_flat hr
      obtain ⟨xs, l1, l2, l3⟩ := relAt_list k1
      exact ⟨xs, Src.ofSlice C.w hk _ _ c xs (by rw [← relL_length l1, k2]) (fun j u hj => by rw [add_lit]; exact l2 j u hj) l3, l1⟩
    · split at h <;> try (simp at h; done)
      rename_i nl sz es k hsz
      cases h
      subst hsz
      obtain ⟨_, _, _, _, h4, h5⟩ := hp
      by_cases he : es = []
      · obtain ⟨A, rfl, _⟩ := h4 he
        subst he
        cases A with
        | none => exact ⟨[], Src.ofNil C.w hk 0, trivial⟩
        | some a => exact ⟨[], Src.ofSlice C.w hk a 0 0 [] (by simp) (by simp) (by simp), trivial⟩
      · obtain ⟨b, off, c, rfl, _, _, _, hr⟩ := h5 he
        obtain ⟨k1, k2⟩ := relRow_flat hr
        obtain ⟨xs, l1, l2, l3⟩ := relAt_list k1
        exact ⟨xs, Src.ofSlice C.w hk _ _ c xs (by rw [← relL_length l1, k2]) (fun j u hj => by rw [add_lit]; exact l2 j u hj) l3, l1⟩
    · rename_i o off len sz
      split at h <;> try (simp at h; done)
      rename_i cs hcs
      split at h <;> try (simp at h; done)
      rename_i hc
      obtain ⟨rfl, hfit⟩ := hc
      cases h
      obtain ⟨_, c, arr, T, fr, rfl, _⟩ := hp
      obtain ⟨xs, l1, l2, l3⟩ := obj_cells hS hcs off
      have hlen := relL_length l1
      refine ⟨xs.take (n * sz), Src.ofSlice C.w hk _ n c _ (by simp at hlen ⊢; omega) (fun j u hj => l2 j u ?_) (fun u hu => l3 u (List.mem_of_mem_take hu)), relL_take _ l1⟩
      rw [List.getElem?_take] at hj
      split at hj
      · exact hj
      · simp at hj
  · rename_i hk
    split at h <;> try (simp at h; done)
    split at h <;> try (simp at h; done)
    rename_i s hsz
    cases h
    subst hsz
    cases hp
    refine ⟨byteCells s, Src.ofString C.w hk s, ?_⟩
    unfold byteCells
    generalize s.data.toList = l
    induction l with
    | nil => trivial
    | cons a l ih => exact ⟨rfl, ih⟩

/-- What is appended, element by element. -/
def aSrcE (P : Program) (tx : TypeId) (size : Nat) (x : AV) : Option (List AV) :=
  match P.underlying tx with
  | some (.slice _) => match x with
    | .nilsl => some []
    | .sl sz es => if sz = size then some es else none
    | .slf sz es => if sz = size then some es else none
    | .slo _ sz es _ => if sz = size then some es else none
    | _ => none
  | some .string => match x with
    | .val (.string s) => if size = 1 then some (s.data.toList.map fun b => .val (.int .u8 b.toNat)) else none
    | _ => none
  | _ => none
theorem aSrcE_ok {C : Ctx} (hS : RelS C) {tx : TypeId} {size : Nat} {p : AV} {x : Value} {es : List AV} (hp : RelV C p x) (h : aSrcE P tx size p = some es) :
    (∀ e ∈ es, e.cells.length = size) ∧ ∃ news : List Value, Src P size tx x es.length news C.w ∧ RelL C (es.flatMap AV.cells) news := by
  unfold aSrcE at h
  split at h <;> try (simp at h; done)
  · rename_i E hk
    split at h <;> try (simp at h; done)
    · cases h
      exact ⟨fun _ hm => absurd hm (by simp), aSrc_ok (P := P) (tx := tx) (size := size) hS (n := 0) (ds := []) hp (by simp [aSrc, hk])⟩
    · split at h <;> try (simp at h; done)
      rename_i sz es' hsz
      cases h
      subst hsz
      exact ⟨by obtain ⟨b, off, c, _, _, _, _, _, hr⟩ := hp; exact relRow_sizes hr, aSrc_ok hS hp (by simp [aSrc, hk])⟩
    · split at h <;> try (simp at h; done)
      rename_i sz es' hsz
      cases h
      subst hsz
      have hp := slf_sl hp
      exact ⟨by obtain ⟨b, off, c, _, _, _, _, _, hr⟩ := hp; exact relRow_sizes hr, aSrc_ok hS hp (by simp [aSrc, hk])⟩
    · split at h <;> try (simp at h; done)
      rename_i nl sz es' k hsz
      cases h
      subst hsz
      refine ⟨?_, aSrc_ok hS hp (by simp [aSrc, hk])⟩
      by_cases he : es = []
      · subst he
        exact fun _ h => by cases h
      · obtain ⟨_, _, _, _, _, h5⟩ := hp
        obtain ⟨b, off, c, _, _, _, _, hr⟩ := h5 he
        exact relRow_sizes hr
  · rename_i hk
    split at h <;> try (simp at h; done)
    split at h <;> try (simp at h; done)
    rename_i s hsz
    cases h
    subst hsz
    refine ⟨fun e he => ?_, aSrc_ok hS hp ?_⟩
    · obtain ⟨b, _, rfl⟩ := List.mem_map.1 he
      rfl
    · have e : ((s.data.toList.map fun b => AV.val (.int .u8 b.toNat)).flatMap AV.cells) = s.data.toList.map fun b => AV.val (.int .u8 b.toNat) := by
        generalize s.data.toList = l
        induction l with
        | nil => rfl
        | cons a l ih => simp [List.flatMap_cons, AV.cells] at ih ⊢; exact ih
      rw [e]
      simp [aSrc, hk]

def fits (m b : Nat) : Bool := decide (m ≤ 4611686018427387904) && decide (m * b ≤ 140737488355328)
def aAppend (P : Program) (σ : List AO) (tS tX : TypeId) (s x : AV) : Option (AV × List AO) :=
  match P.underlying tS with
  | some (.slice e) => match P.info? e with
    | some i => match i.zero with
      | some z => if z.cells.size = i.size ∧ z.cells.toList.all Value.oneCell' = true then
          match aSrc P σ tX i.size x with
          | some (n, ds) => match s with
            | .nilsl => if n = 0 then some (.nilsl, σ) else if fits n i.bytes = true then some (.osl σ.length 0 n i.size, σ ++ [.cells ds]) else none
            | .osl o off len sz => match σ[o]? with
              | some (.cells cs) => if off = 0 ∧ sz = i.size ∧ cs.length = len * sz ∧ fits (len + n) i.bytes = true then some (.osl σ.length 0 (len + n) sz, σ.set o .dead ++ [.cells (cs ++ ds)]) else none
              | _ => none
            | _ => none
          | none => none
        else none
      | none => none
    | none => none
  | _ => none
/-- append where the right to append is held. -/
def aAppendO (P : Program) (σ : List AO) (tS tX : TypeId) (nl : Bool) (sz : Nat) (es : List AV) (k : Nat) (x : AV) : Option (AV × List AO) :=
  match P.underlying tS with
  | some (.slice e) => match P.info? e with
    | some i => match i.zero with
      | some z => if z.cells.size = i.size ∧ z.cells.toList.all Value.oneCell' = true ∧ sz = i.size then
          match aSrcE P tX i.size x with
          | some ds => if σ[k]?.bind (fun a => match a with | .cap m s => some (m, s) | _ => none) = some (es.length, sz) ∧ fits (es.length + ds.length) i.bytes = true then
              if ds.length = 0 then some (.slo nl sz es k, σ) else some (.slo nl sz (es ++ ds) k, σ.set k (.cap (es.length + ds.length) sz))
            else none
          | none => none
        else none
      | none => none
    | none => none
  | _ => none

theorem zeroCells_size (zc : Array Value) (n : Nat) : (Builtin.zeroCells zc n).size = n * zc.size := by simp [Builtin.zeroCells]
theorem zeroCells_one (zc : Array Value) (h : zc.toList.all Value.oneCell' = true) (n : Nat) : ∀ u ∈ (Builtin.zeroCells zc n).toList, u.oneCell' = true := by
  intro u hu
  simp only [Builtin.zeroCells, Array.toList_map, List.mem_map] at hu
  obtain ⟨i, hi, rfl⟩ := hu
  simp at hi
  have hpos : 0 < zc.size := by
    rcases Nat.eq_zero_or_pos zc.size with e | e
    · rw [e] at hi
      omega
    · exact e
  have hlt := Nat.mod_lt i hpos
  rw [getElem!_pos zc (i % zc.size) hlt]
  exact List.all_eq_true.1 h _ (by simp)

/-- A new row, and maybe an elder one that is given up. -/
theorem grow_ok {C : Ctx} (hS : RelS C) {cs : List AV} {arr : Array Value} (e : TypeId) (hl : RelL C cs (arr.toList.take cs.length)) (hn : cs.length ≤ arr.size) (h1 : ∀ v ∈ arr.toList, v.oneCell' = true) {len c sz : Nat}
    (hc : len ≤ c) (hm : c ≤ maxLen) (hsz : c * sz ≤ arr.size) :
    let D := C.new (.cells cs) (.cells arr e)
    Ext C D ∧ RelS D ∧ RelV D (.osl C.σ.length 0 len sz) (.slice (some ⟨C.w.heap.size, 0, none⟩) len c) := by
  refine ⟨new_ext hS _ _, new_cells hS e hl hn h1, ?_⟩
  refine ⟨⟨.cells cs, by simp [Ctx.new], rfl⟩, c, arr, e, (0, 0), by rw [new_φ_at], hc, hm, ?_, by omega⟩
  rw [new_φ_at]
  exact heap_alloc_at _ _

theorem aAppend_ok {C : Ctx} (hS : RelS C) {tS tX ty : TypeId} {p q v : AV} {x y : Value} {σ' : List AO} (hp : RelV C p x) (hq : RelV C q y) (h : aAppend P C.σ tS tX p q = some (v, σ')) :
    ∃ (z : Value) (D : Ctx), (Builtin.append_ #[tS, tX] ty #[x, y]).run P C.w = .ok z D.w ∧ D.σ = σ' ∧ Ext C D ∧ RelS D ∧ RelV D v z := by
  unfold aAppend at h
  split at h <;> try (simp at h; done)
  rename_i e hT
  split at h <;> try (simp at h; done)
  rename_i i hi
  split at h <;> try (simp at h; done)
  rename_i z hz
  split at h <;> try (simp at h; done)
  rename_i hzz
  obtain ⟨hz1, hz2⟩ := hzz
  split at h <;> try (simp at h; done)
  rename_i n ds hsrc
  obtain ⟨news, hs, hnl⟩ := aSrc_ok hS hq hsrc
  have hnlen := relL_length hnl
  split at h <;> try (simp at h; done)
  · cases hp
    split at h
    · rename_i hn
      cases h
      subst hn
      refine ⟨.slice none 0 0, C, ?_, rfl, Ext.refl _, hS, rfl⟩
      have hnn : news = [] := List.eq_nil_of_length_eq_zero (by have := hs.newsLen; omega)
      subst hnn
      rcases hs.kind with ⟨e', hk⟩ | hk <;> simp [Builtin.append_, run_underlying hT, run_underlying hk, sizeOf, typeInfo, hi, hs.len, hs.cells]
    · rename_i hn
      split at h <;> try (simp at h; done)
      rename_i hfit
      cases h
      simp only [fits, Bool.and_eq_true, decide_eq_true_eq] at hfit
      have hnc : Builtin.nextslicecap (0 + n) 0 * i.bytes ≤ 281474976710656 := by
        have h2 := Room.nextslicecap_le' (need := 0 + n) (old := 0) (by omega)
        have h3 : Builtin.nextslicecap (0 + n) 0 * i.bytes ≤ (2 * (0 + n)) * i.bytes := Nat.mul_le_mul_right _ h2
        have h4 : (2 * (0 + n)) * i.bytes = 2 * (n * i.bytes) := by rw [Nat.zero_add, Nat.mul_assoc]
        omega
      have hrun := run_append_grow_src C.w tS tX ty e i z hT hi hz none 0 0 [] (run_firstCells_none C.w.drew i.size 0 0 0) y n news hs (by omega) (by omega) hnc
      simp only [Nat.zero_add, List.nil_append] at hrun
      have hge := grownCap_ge C.w n 0 e
      have hle := grownCap_le_maxLen C.w n 0 e (by simp only [maxLen]; omega)
      have hasz : (news.toArray ++ Builtin.zeroCells z.cells (grownCap C.w n 0 e - n)).size = grownCap C.w n 0 e * i.size := by
        simp only [Array.size_append, List.size_toArray, zeroCells_size, hz1, hs.newsLen]
        rw [← Nat.add_mul]
        congr 1
        omega
      obtain ⟨k1, k2, k3⟩ := grow_ok (C := C.drew) (drew_rel hS) (cs := ds) (arr := news.toArray ++ Builtin.zeroCells z.cells (grownCap C.w n 0 e - n)) e (by
          rw [hnlen]
          simp only [Array.toList_append, List.take_left]
          exact RelL.mono (drew_ext C) hnl) (by simp [hnlen]) (by
          intro u hu
          simp only [Array.toList_append] at hu
          rcases List.mem_append.1 hu with hu | hu
          · exact hs.one u hu
          · exact zeroCells_one _ hz2 _ u hu) (len := n) (c := grownCap C.w n 0 e) (sz := i.size) hge hle (by rw [hasz]; omega)
      exact ⟨_, _, hrun, rfl, (drew_ext C).trans k1, k2, k3⟩
  · rename_i o off len sz
    split at h <;> try (simp at h; done)
    rename_i cs hcs
    split at h <;> try (simp at h; done)
    rename_i hcond
    obtain ⟨rfl, rfl, hlen, hfit⟩ := hcond
    cases h
    simp only [fits, Bool.and_eq_true, decide_eq_true_eq] at hfit
    obtain ⟨_, c, arr, T, fr, rfl, hlc, hcm, hblk, hroom⟩ := hp
    obtain ⟨arr', T', hb', hn', hl', h1'⟩ := hS.cells o cs hcs
    have e1 : arr = arr' ∧ T = T' ∧ fr = (0, 0) := by
      rw [hblk] at hb'
      cases hb'
      exact ⟨rfl, rfl, rfl⟩
    obtain ⟨rfl, rfl, rfl⟩ := e1
    by_cases hr : len + n ≤ c
    · -- there is room
      have hcap : (len + n) * i.size ≤ arr.size := Nat.le_trans (Nat.mul_le_mul_right _ hr) (by omega)
      have hcap' : len * i.size + news.length ≤ arr.size := by rw [hs.newsLen, ← Nat.add_mul]; exact hcap
      have hcell : ∀ j, j < news.length → (C.w.cell? ⟨C.φ o, 0 + len * i.size + j, none⟩).isSome = true := by
        intro j hj
        rw [cell_of_row _ _ _ _ _ _ hblk]
        simp
        omega
      have hfro : ∀ j, j < news.length → C.w.frozen? ⟨C.φ o, 0 + len * i.size + j, none⟩ = false := by
        intro j _
        simp [World.frozen?, hblk]
      have hrun := run_append_room_src C.w tS tX ty e i hT hi (C.φ o) 0 len c y n news hs hr hcell hfro
      have hst1 := run_storeCells_cells (P := P) (C.φ o) (0 + len * i.size) news 0 C.w (by simpa using hcell) (by simpa using hfro) hs.one
      have hst2 := run_storeCells_at P (C.φ o) (0 + len * i.size) T news 0 arr C.w hblk (by simpa using hcap') hs.one
      have hset : C.w.setCells (C.φ o) (0 + len * i.size) news = C.w.setRow (C.φ o) (arr.toList.take (0 + len * i.size + 0) ++ news ++ arr.toList.drop (0 + len * i.size + 0 + news.length)).toArray := by
        have := hst1.symm.trans hst2
        simpa using this
      let arr2 : Array Value := (arr.toList.take (0 + len * i.size + 0) ++ news ++ arr.toList.drop (0 + len * i.size + 0 + news.length)).toArray
      have hsz2 : arr.size = arr2.size := by simp [arr2]; omega
      have hpe := pass_ext hcs
      have hpr := pass_rel hS hcs
      have hget : (C.pass o cs).σ[C.σ.length]? = some (.cells cs) := by simp [Ctx.pass]
      have hput := put_cells (C := C.pass o cs) hpr (o := C.σ.length) (cs := cs ++ ds) (arr := arr2) (T := T) hget ⟨arr, by rw [pass_φ_at]; exact hblk, hsz2⟩ (by
          refine RelL.mono hpe ?_
          have e3 : arr2.toList.take (cs ++ ds).length = arr.toList.take cs.length ++ news := by
            simp only [arr2, List.length_append, hnlen, hlen, Nat.zero_add, Nat.add_zero]
            rw [List.take_append, List.take_append]
            simp only [List.length_append, List.length_take, Array.length_toList]
            rw [Nat.min_eq_left (by omega)]
            rw [List.take_of_length_le (l := List.take (len * i.size) arr.toList) (by simp; omega)]
            rw [List.take_of_length_le (l := news) (by omega)]
            simp
          rw [e3]
          exact relL_append hl' hnl) (by simp [arr2]; omega) (by
          intro u hu
          simp only [arr2] at hu
          rcases List.mem_append.1 hu with hu | hu
          · rcases List.mem_append.1 hu with hu | hu
            · exact h1' u (List.mem_of_mem_take hu)
            · exact hs.one u hu
          · exact h1' u (List.mem_of_mem_drop hu))
      refine ⟨.slice (some ⟨C.φ o, 0, none⟩) (len + n) c, (C.pass o cs).put C.σ.length (.cells (cs ++ ds)) (.cells arr2 T (0, 0)), ?_, ?_, hpe.trans hput.1, hput.2, ?_⟩
      · rw [hrun, hset, setRow_eq _ _ _ _ _ _ hblk]
        simp only [Ctx.put, pass_φ_at]
        rfl
      · simp only [Ctx.put, Ctx.pass]
        rw [List.set_append_right _ _ (by simp)]
        simp
      · refine ⟨⟨.cells (cs ++ ds), by simp [Ctx.put, Ctx.pass], rfl⟩, c, arr2, T, (0, 0), ?_, hr, hcm, ?_, by omega⟩
        · simp only [Ctx.put, pass_φ_at]
        · simp only [Ctx.put, pass_φ_at]
          exact setBlk_same _ _ _ (lt_of_heap hblk)
    · -- a new row
      have hnc : Builtin.nextslicecap (len + n) c * i.bytes ≤ 281474976710656 := by
        have h2 := Room.nextslicecap_le' (need := len + n) (old := c) (by omega)
        have h3 : Builtin.nextslicecap (len + n) c * i.bytes ≤ (2 * (len + n)) * i.bytes := Nat.mul_le_mul_right _ h2
        have h4 : (2 * (len + n)) * i.bytes = 2 * ((len + n) * i.bytes) := by rw [Nat.mul_assoc]
        omega
      obtain ⟨xs, l1, l2, l3⟩ := obj_cells hS hcs 0
      have hxlen : xs.length = len * i.size := by rw [← relL_length l1]; simp [hlen]
      have hold : (Builtin.firstCells i.size len (.slice (some ⟨C.φ o, 0, none⟩) len c)).run P C.w.drew = .ok xs.toArray C.w.drew :=
        run_firstCells_some C.w.drew i.size len ⟨C.φ o, 0, none⟩ len c xs hxlen (by simpa using l2)
      have hrun := run_append_grow_src C.w tS tX ty e i z hT hi hz (some ⟨C.φ o, 0, none⟩) len c xs hold y n news hs (by omega) (by omega) hnc
      have hge := grownCap_ge C.w (len + n) c e
      have hle := grownCap_le_maxLen C.w (len + n) c e (by simp only [maxLen]; omega)
      have hasz : ((xs ++ news).toArray ++ Builtin.zeroCells z.cells (grownCap C.w (len + n) c e - (len + n))).size = grownCap C.w (len + n) c e * i.size := by
        simp only [Array.size_append, List.size_toArray, List.length_append, zeroCells_size, hz1, hs.newsLen, hxlen]
        rw [← Nat.add_mul, ← Nat.add_mul]
        congr 1
        omega
      have hke := kill_ext (C := C.drew) (o := o) hcs rfl (by simp)
      have hde := drew_ext C
      obtain ⟨k1, k2, k3⟩ := grow_ok (C := C.drew.kill o) (kill_rel (drew_rel hS) hcs rfl (by simp)) (cs := cs ++ ds) (arr := (xs ++ news).toArray ++ Builtin.zeroCells z.cells (grownCap C.w (len + n) c e - (len + n))) e (by
          have e3 : (cs ++ ds).length = (xs ++ news).length := by simp [hnlen, hlen, hxlen]
          rw [e3]
          simp only [Array.toList_append, List.take_left]
          exact RelL.mono (hde.trans hke) (relL_append (by simpa using l1) hnl)) (by simp [hnlen, hlen, hxlen]) (by
          intro u hu
          simp only [Array.toList_append] at hu
          rcases List.mem_append.1 hu with hu | hu
          · rcases List.mem_append.1 hu with hu | hu
            · exact l3 u hu
            · exact hs.one u hu
          · exact zeroCells_one _ hz2 _ u hu) (len := len + n) (c := grownCap C.w (len + n) c e) (sz := i.size) hge hle (by rw [hasz]; omega)
      have hkl : (C.drew.kill o).σ.length = C.σ.length := by simp [Ctx.kill, Ctx.drew]
      rw [hkl] at k3
      exact ⟨_, _, hrun, rfl, (hde.trans hke).trans k1, k2, k3⟩

theorem of_cap {σ : List AO} {k n sz : Nat} (h : σ[k]?.bind (fun a => match a with | .cap m s => some (m, s) | _ => none) = some (n, sz)) : σ[k]? = some (.cap n sz) := by
  obtain ⟨a, h1, h2⟩ := Option.bind_eq_some_iff.1 h
  cases a <;> simp at h2
  obtain ⟨rfl, rfl⟩ := h2
  exact h1
theorem appendGrow {C : Ctx} (hS : RelS C) {tS tX ty e : TypeId} {i : TypeInfo} {z : Value} (hT : P.underlying tS = some (.slice e)) (hi : P.info? e = some i) (hz : i.zero = some z) (hz1 : z.cells.size = i.size) (hz2 : z.cells.toList.all Value.oneCell' = true)
    {nl : Bool} {k m : Nat} {es ds : List AV} {news : List Value} {y : Value} (hcap : C.σ[k]? = some (.cap m i.size)) (hlt : m < es.length + ds.length) (hs : Src P i.size tX y ds.length news C.w) (hnl : RelL C (ds.flatMap AV.cells) news)
    (hds : ∀ d ∈ ds, d.cells.length = i.size) (hsz0 : 0 < i.size) (hfit : es.length + ds.length ≤ 4611686018427387904 ∧ (es.length + ds.length) * i.bytes ≤ 140737488355328) (hne : es ++ ds ≠ []) (A : Option Addr) (c : Nat) (xs : List Value) (hxl : RelL C (es.flatMap AV.cells) xs) (hxlen : xs.length = es.length * i.size) (hx1 : ∀ u ∈ xs, u.oneCell' = true) (hes : ∀ e ∈ es, e.cells.length = i.size)
    (hold : (Builtin.firstCells i.size es.length (.slice A es.length c)).run P C.w.drew = .ok xs.toArray C.w.drew) (hgrow : c < es.length + ds.length) :
    ∃ (zv : Value) (D : Ctx), (Builtin.append_ #[tS, tX] ty #[.slice A es.length c, y]).run P C.w = .ok zv D.w ∧ D.σ = C.σ.set k (.cap (es.length + ds.length) i.size) ∧ Ext C D ∧ RelS D ∧ RelV D (.slo nl i.size (es ++ ds) k) zv := by
  have hnlen := relL_length hnl
  have hflat : (ds.flatMap AV.cells).length = ds.length * i.size := by rw [hnlen, hs.newsLen]
  have hpos : 0 < es.length + ds.length := by omega
  have hnc : Builtin.nextslicecap (es.length + ds.length) c * i.bytes ≤ 281474976710656 := by
    have h2 := Room.nextslicecap_le' (need := es.length + ds.length) (old := c) (by omega)
    have h3 : Builtin.nextslicecap (es.length + ds.length) c * i.bytes ≤ (2 * (es.length + ds.length)) * i.bytes := Nat.mul_le_mul_right _ h2
    have h4 : (2 * (es.length + ds.length)) * i.bytes = 2 * ((es.length + ds.length) * i.bytes) := by rw [Nat.mul_assoc]
    omega
  have hrun := run_append_grow_src C.w tS tX ty e i z hT hi hz A es.length c xs hold y ds.length news hs (by omega) (by omega) hnc
  have hge := grownCap_ge C.w (es.length + ds.length) c e
  have hle := grownCap_le_maxLen C.w (es.length + ds.length) c e (by simp only [maxLen]; omega)
  generalize grownCap C.w (es.length + ds.length) c e = gc at hrun hge hle
  generalize harr : (xs ++ news).toArray ++ Builtin.zeroCells z.cells (gc - (es.length + ds.length)) = arr at hrun
  have hasz : arr.size = gc * i.size := by
    rw [← harr]
    simp only [Array.size_append, List.size_toArray, List.length_append, zeroCells_size, hz1, hs.newsLen, hxlen]
    rw [← Nat.add_mul, ← Nat.add_mul]
    congr 1
    omega
  have hone : ∀ u ∈ arr.toList, u.oneCell' = true := by
    rw [← harr]
    intro u hu
    simp only [Array.toList_append] at hu
    rcases List.mem_append.1 hu with hu | hu
    · rcases List.mem_append.1 hu with hu | hu
      · exact hx1 u hu
      · exact hs.one u hu
    · exact zeroCells_one _ hz2 _ u hu
  have hcapd : C.drew.σ[k]? = some (.cap m i.size) := hcap
  have hE := (drew_ext C).trans (regrow_ext (drew_rel hS) (.cells arr e) hcapd hlt)
  have hblk : (C.drew.regrow k (.cap (es.length + ds.length) i.size) (.cells arr e)).w.heap[C.w.heap.size]? = some (.cells arr e (0, 0)) := heap_alloc_at _ _
  have hmul : (es.length + ds.length) * i.size ≤ arr.size := by rw [hasz]; exact Nat.mul_le_mul_right _ hge
  have hD := regrow_rel (drew_rel hS) hcapd hlt (ob := .cells arr e) (fun _ => ⟨arr, e, (0, 0), by rw [regrow_at]; exact hblk, hmul, hone, Nat.zero_le _⟩)
  refine ⟨_, _, hrun, rfl, hE, hD, ?_⟩
  refine ⟨es.length + ds.length, by simp [Ctx.regrow, Ctx.drew, get_lt hcap], by simp, hsz0, fun e => absurd e hne, fun _ => ?_⟩
  refine ⟨C.w.heap.size, 0, gc, by simp, by simp; omega, hle, fun _ => ⟨by rw [regrow_at]; rfl, rfl, arr, e, (0, 0), hblk, by rw [hasz]; omega⟩, ?_⟩
  refine relRow_of (fun d hd => ?_) ?_
  · rcases List.mem_append.1 hd with hd | hd
    · exact hes d hd
    · exact hds d hd
  · rw [List.flatMap_append]
    have hfl : (es.flatMap AV.cells ++ ds.flatMap AV.cells).length = (es.length + ds.length) * i.size := by
      rw [List.length_append, hflat, relL_length hxl, hxlen, Nat.add_mul]
    refine relAt_of (xs := xs ++ news) (RelL.mono hE (relL_append hxl hnl)) (fun j u hj => ?_) (fun j hj => ?_)
    · have hu : u ∈ xs ++ news := List.mem_of_getElem? hj
      refine ⟨?_, ?_⟩
      · rw [Nat.zero_add, cell_of_row _ _ _ _ _ _ hblk, ← harr]
        have hjl : j < (xs ++ news).length := (List.getElem?_eq_some_iff.1 hj).1
        rw [Array.getElem?_append_left (by simpa using hjl)]
        simpa using hj
      · rcases List.mem_append.1 hu with hu | hu
        · exact hx1 u hu
        · exact hs.one u hu
    · refine ⟨lt_of_heap hblk, fun o l ho eo => ?_⟩
      rcases regrow_lim ho with rfl | ⟨h1, h2⟩
      · have : (C.drew.regrow o (.cap (es.length + ds.length) i.size) (.cells arr e)).lim o = some ((es.length + ds.length) * i.size) := by
          rw [lim_of (a := .cap (es.length + ds.length) i.size) (by simp [Ctx.regrow, Ctx.drew, get_lt hcap])]
          simp only [AO.lim]
          rw [if_neg (by omega)]
        rw [this] at ho
        cases ho
        omega
      · rw [regrow_φ h1] at eo
        have := (drew_rel hS).lim_lt h2
        have eo : C.φ o = C.w.heap.size := eo
        have this : C.φ o < C.w.heap.size := this
        omega
theorem aAppendO_ok {C : Ctx} (hS : RelS C) {tS tX ty : TypeId} {nl : Bool} {sz k : Nat} {es : List AV} {q v : AV} {x y : Value} {σ' : List AO} (hp : RelV C (.slo nl sz es k) x) (hq : RelV C q y) (h : aAppendO P C.σ tS tX nl sz es k q = some (v, σ')) :
    ∃ (z : Value) (D : Ctx), (Builtin.append_ #[tS, tX] ty #[x, y]).run P C.w = .ok z D.w ∧ D.σ = σ' ∧ Ext C D ∧ RelS D ∧ RelV D v z := by
  unfold aAppendO at h
  split at h <;> try (simp at h; done)
  rename_i e hT
  split at h <;> try (simp at h; done)
  rename_i i hi
  split at h <;> try (simp at h; done)
  rename_i z hz
  split at h <;> try (simp at h; done)
  rename_i hzz
  obtain ⟨hz1, hz2, rfl⟩ := hzz
  split at h <;> try (simp at h; done)
  rename_i ds hsrc
  obtain ⟨hds, news, hs, hnl⟩ := aSrcE_ok hS hq hsrc
  have hnlen := relL_length hnl
  have hflat : (ds.flatMap AV.cells).length = ds.length * i.size := by rw [hnlen, hs.newsLen]
  split at h <;> try (simp at h; done)
  rename_i hcond
  obtain ⟨hcap, hfit⟩ := hcond
  have hcap := of_cap hcap
  simp only [fits, Bool.and_eq_true, decide_eq_true_eq] at hfit
  have hp0 := hp
  obtain ⟨n0, hn0, hle0, hsz0, h4, h5⟩ := hp
  rw [hcap] at hn0
  cases hn0
  split at h
  · -- nothing is appended
    rename_i hn
    cases h
    have hd0 : ds = [] := List.eq_nil_of_length_eq_zero hn
    subst hd0
    have hnn : news = [] := List.eq_nil_of_length_eq_zero (by have := hs.newsLen; simpa using this)
    subst hnn
    refine ⟨x, C, ?_, rfl, Ext.refl _, hS, hp0⟩
    by_cases he : es = []
    · obtain ⟨A, rfl, _⟩ := h4 he
      cases A <;> rcases hs.kind with ⟨e', hk⟩ | hk <;> have hl := hs.len <;> have hc := hs.cells <;> simp at hl hc <;> simp [Builtin.append_, run_underlying hT, run_underlying hk, sizeOf, typeInfo, hi, hl, hc, storeCells]
    · obtain ⟨b, off, c, rfl, k1, _⟩ := h5 he
      rcases hs.kind with ⟨e', hk⟩ | hk <;> have hl := hs.len <;> have hc := hs.cells <;> simp at hl hc <;> simp [Builtin.append_, run_underlying hT, run_underlying hk, sizeOf, typeInfo, hi, hl, hc, storeCells, k1]
  · rename_i hn
    cases h
    have hpos : 0 < ds.length := by omega
    have hne : es ++ ds ≠ [] := fun e => by
      have := congrArg List.length e
      rw [List.length_append] at this
      simp only [List.length_nil] at this
      omega
    -- a new row
    have grow : ∀ (A : Option Addr) (c : Nat) (xs : List Value), RelL C (es.flatMap AV.cells) xs → xs.length = es.length * i.size → (∀ u ∈ xs, u.oneCell' = true) → (∀ e ∈ es, e.cells.length = i.size) →
        (Builtin.firstCells i.size es.length (.slice A es.length c)).run P C.w.drew = .ok xs.toArray C.w.drew → c < es.length + ds.length →
        ∃ (zv : Value) (D : Ctx), (Builtin.append_ #[tS, tX] ty #[.slice A es.length c, y]).run P C.w = .ok zv D.w ∧ D.σ = C.σ.set k (.cap (es.length + ds.length) i.size) ∧ Ext C D ∧ RelS D ∧ RelV D (.slo nl i.size (es ++ ds) k) zv :=
      appendGrow hS hT hi hz hz1 hz2 hcap (by omega) hs hnl hds hsz0 hfit hne
    by_cases he : es = []
    · obtain ⟨A, rfl, _⟩ := h4 he
      have hel : es.length = 0 := by rw [he]; rfl
      have h0 := grow A 0 [] (by rw [he]; trivial) (by rw [he]; simp) (by simp) (by rw [he]; simp) (by
        rw [hel]
        cases A with
        | none => exact run_firstCells_none C.w.drew i.size 0 0 0
        | some a => exact run_firstCells_some C.w.drew i.size 0 a 0 0 [] (by simp) (by simp)) (by omega)
      rw [hel] at h0
      rw [hel]
      exact h0
    · obtain ⟨b, off, c, rfl, hlc, hcm, hcur, hrow⟩ := h5 he
      obtain ⟨rfl, rfl, arr, T, fr, hblk, hroom⟩ := hcur rfl
      obtain ⟨k1, k2⟩ := relRow_flat hrow
      obtain ⟨xs, l1, l2, l3⟩ := relAt_list k1
      have hxlen : xs.length = es.length * i.size := by rw [← relL_length l1, k2]
      by_cases hr : es.length + ds.length ≤ c
      · -- there is room
        have hcap1 : (es.length + ds.length) * i.size ≤ arr.size := Nat.le_trans (Nat.mul_le_mul_right _ hr) hroom
        have hcap' : es.length * i.size + news.length ≤ arr.size := by rw [hs.newsLen, ← Nat.add_mul]; exact hcap1
        have hcapg : (∀ v ∈ arr.toList, v.oneCell' = true) ∧ fr.2 ≤ es.length * i.size := by
          obtain ⟨arr', T', fr', g1, g2, g3, g4⟩ := hS.cap k es.length i.size hcap (List.length_pos_iff.2 he)
          rw [hblk] at g1
          cases g1
          exact ⟨g3, g4⟩
        have hcell : ∀ j, j < news.length → (C.w.cell? ⟨C.φ k, 0 + es.length * i.size + j, none⟩).isSome = true := by
          intro j hj
          rw [cell_of_row _ _ _ _ _ _ hblk]
          simp
          omega
        have hfro : ∀ j, j < news.length → C.w.frozen? ⟨C.φ k, 0 + es.length * i.size + j, none⟩ = false := by
          intro j _
          have := hcapg.2
          obtain ⟨f1, f2⟩ := fr
          simp only [World.frozen?, hblk, Bool.and_eq_false_iff, decide_eq_false_iff_not]
          exact .inr (by simp only at this; omega)
        have hrun := run_append_room_src C.w tS tX ty e i hT hi (C.φ k) 0 es.length c y ds.length news hs hr hcell hfro
        have hst1 := run_storeCells_cells (P := P) (C.φ k) (0 + es.length * i.size) news 0 C.w (by simpa using hcell) (by simpa using hfro) hs.one
        have hst2 := run_storeCells_atF P (C.φ k) (0 + es.length * i.size) T fr news 0 arr C.w hblk (by simpa using hcapg.2) (by simpa using hcap') hs.one
        have hset : C.w.setCells (C.φ k) (0 + es.length * i.size) news = C.w.setRow (C.φ k) (arr.toList.take (0 + es.length * i.size + 0) ++ news ++ arr.toList.drop (0 + es.length * i.size + 0 + news.length)).toArray := by
          have := hst1.symm.trans hst2
          simpa using this
        simp only [Nat.zero_add, Nat.add_zero] at hset hrun
        generalize harr2 : (arr.toList.take (es.length * i.size) ++ news ++ arr.toList.drop (es.length * i.size + news.length)).toArray = arr2 at hset
        have hsz2 : arr.size = arr2.size := by rw [← harr2]; simp; omega
        have hget2 : ∀ j, arr2[j]? = if j < es.length * i.size then arr[j]? else if j < es.length * i.size + news.length then news[j - es.length * i.size]? else arr[j]? := by
          intro j
          rw [← harr2]
          simp only [List.getElem?_toArray, List.append_assoc]
          rw [List.getElem?_append]
          have e1 : (arr.toList.take (es.length * i.size)).length = es.length * i.size := by simp; omega
          rw [e1]
          split
          · rename_i hj
            rw [List.getElem?_take, if_pos hj]
            simp
          · rename_i hj
            rw [List.getElem?_append]
            split
            · rename_i hj2
              rw [if_pos (by omega)]
            · rename_i hj2
              rw [if_neg (by omega), List.getElem?_drop]
              simp
              congr 1
              omega
        have hone2 : ∀ u ∈ arr2.toList, u.oneCell' = true := by
          have g3 := hcapg.1
          rw [← harr2]
          intro u hu
          rcases List.mem_append.1 hu with hu | hu
          · rcases List.mem_append.1 hu with hu | hu
            · exact g3 u (List.mem_of_mem_take hu)
            · exact hs.one u hu
          · exact g3 u (List.mem_of_mem_drop hu)
        have hlim : (AO.cap es.length i.size).lim = some (es.length * i.size) := by
          simp only [AO.lim]
          rw [if_neg (fun e => he (List.eq_nil_of_length_eq_zero e))]
        have hlim' : (AO.cap (es.length + ds.length) i.size).lim = some ((es.length + ds.length) * i.size) := by
          simp only [AO.lim]
          rw [if_neg (by omega)]
        have hE : Ext C (C.put k (.cap (es.length + ds.length) i.size) (.cells arr2 T fr)) := put_ext hS hcap hlim hblk ⟨hsz2, rfl, rfl⟩ (.inr ⟨_, _, _, rfl, rfl, by omega⟩) ⟨_, hlim', Nat.mul_le_mul_right _ (by omega)⟩ ⟨by simp, by simp⟩ (fun off hoff => by
          rw [cell_of_row _ _ _ _ _ _ (setBlk_same _ _ _ (lt_of_heap hblk)), cell_of_row _ _ _ _ _ _ hblk, hget2, if_pos hoff])
        have hD := put_rel hS (by rw [lim_of hcap, hlim]; rfl) hE (fun _ => ⟨arr2, T, fr, setBlk_same _ _ _ (lt_of_heap hblk), by omega, hone2, Nat.le_trans hcapg.2 (Nat.mul_le_mul_right _ (by omega))⟩)
        have hblk2 : (C.put k (.cap (es.length + ds.length) i.size) (.cells arr2 T fr)).w.heap[C.φ k]? = some (.cells arr2 T fr) := setBlk_same _ _ _ (lt_of_heap hblk)
        refine ⟨.slice (some ⟨C.φ k, 0, none⟩) (es.length + ds.length) c, C.put k (.cap (es.length + ds.length) i.size) (.cells arr2 T fr), ?_, rfl, hE, hD, ?_⟩
        · rw [hrun, hset, setRow_eq _ _ _ _ _ _ hblk]
          rfl
        · refine ⟨es.length + ds.length, put_at (get_lt hcap), by simp, hsz0, fun e => absurd e hne, fun _ => ?_⟩
          refine ⟨C.φ k, 0, c, by simp, by simp; exact hr, hcm, fun _ => ⟨rfl, rfl, arr2, T, fr, hblk2, by omega⟩, ?_⟩
          refine relRow_append (RelRow.mono hE hrow) (relRow_of hds ?_)
          refine relAt_of (xs := news) (RelL.mono hE hnl) (fun j u hj => ⟨?_, hs.one u (List.mem_of_getElem? hj)⟩) (fun j hj => ⟨lt_of_heap hblk2, fun o l ho eo => ?_⟩)
          · have hjl : j < news.length := (List.getElem?_eq_some_iff.1 hj).1
            rw [cell_of_row _ _ _ _ _ _ hblk2, hget2, if_neg (by omega), if_pos (by omega)]
            rw [Nat.zero_add, Nat.add_sub_cancel_left]
            exact hj
          · obtain ⟨a, h1, h2⟩ := lim_get ho
            rcases put_get h1 with ⟨_, rfl, _⟩ | ⟨hne2, h3⟩
            · rw [hlim'] at h2
              cases h2
              rw [hflat] at hj
              rw [Nat.add_mul]
              omega
            · exact absurd (hS.inj o k (by rw [lim_of h3, h2]; rfl) (by rw [lim_of hcap, hlim]; rfl) eo) hne2
      · exact grow (some ⟨C.φ k, 0, none⟩) c xs l1 hxlen l3 (relRow_sizes hrow) (run_firstCells_some C.w.drew i.size es.length ⟨C.φ k, 0, none⟩ es.length c xs hxlen (fun j u hj => by rw [add_lit]; simpa using l2 j u hj)) (by omega)
/-- append to a full row: always a new one. -/
def aAppendF (P : Program) (σ : List AO) (tS tX : TypeId) (sz : Nat) (es : List AV) (x : AV) : Option (AV × List AO) :=
  match P.underlying tS with
  | some (.slice e) => match P.info? e with
    | some i => match i.zero with
      | some z => if z.cells.size = i.size ∧ z.cells.toList.all Value.oneCell' = true ∧ sz = i.size then
          match aSrcE P tX i.size x with
          | some ds => if 0 < ds.length ∧ fits (es.length + ds.length) i.bytes = true then some (.slo false sz (es ++ ds) σ.length, σ ++ [.cap (es.length + ds.length) sz]) else none
          | none => none
        else none
      | none => none
    | none => none
  | _ => none
theorem aAppendF_ok {C : Ctx} {sz : Nat} (hS : RelS C) (hE : Ext C (C.ghost (.cap 0 sz))) (hG : RelS (C.ghost (.cap 0 sz))) {tS tX ty : TypeId} {es : List AV} {q v : AV} {x y : Value} {σ' : List AO} (hp : RelV C (.slf sz es) x) (hq : RelV C q y) (h : aAppendF P C.σ tS tX sz es q = some (v, σ')) :
    ∃ (z : Value) (D : Ctx), (Builtin.append_ #[tS, tX] ty #[x, y]).run P C.w = .ok z D.w ∧ D.σ = σ' ∧ Ext C D ∧ RelS D ∧ RelV D v z := by
  unfold aAppendF at h
  split at h <;> try (simp at h; done)
  rename_i e hT
  split at h <;> try (simp at h; done)
  rename_i i hi
  split at h <;> try (simp at h; done)
  rename_i z hz
  split at h <;> try (simp at h; done)
  rename_i hzz
  obtain ⟨hz1, hz2, rfl⟩ := hzz
  split at h <;> try (simp at h; done)
  rename_i ds hsrc
  obtain ⟨hds, news, hs, hnl⟩ := aSrcE_ok hS hq hsrc
  split at h <;> try (simp at h; done)
  rename_i hcond
  obtain ⟨hpos, hfit⟩ := hcond
  simp only [fits, Bool.and_eq_true, decide_eq_true_eq] at hfit
  cases h
  obtain ⟨b, rfl, hne, hsz0, hmx, hrow⟩ := hp
  obtain ⟨k1, k2⟩ := relRow_flat hrow
  obtain ⟨xs, l1, l2, l3⟩ := relAt_list k1
  have hxlen : xs.length = es.length * i.size := by rw [← relL_length l1, k2]
  have hcap : (C.ghost (.cap 0 i.size)).σ[C.σ.length]? = some (.cap 0 i.size) := by simp [Ctx.ghost]
  have hne2 : es ++ ds ≠ [] := fun e => hne (List.append_eq_nil_iff.1 e).1
  obtain ⟨zv, D, g1, g2, g3, g4, g5⟩ := appendGrow (ty := ty) (nl := false) hG hT hi hz hz1 hz2 hcap (by omega) hs (RelL.mono hE hnl) hds hsz0 hfit hne2 (some ⟨b, 0, none⟩) es.length xs (RelL.mono hE l1) hxlen l3 (relRow_sizes hrow) (run_firstCells_some C.w.drew i.size es.length ⟨b, 0, none⟩ es.length es.length xs hxlen (fun j u hj => by rw [add_lit]; simpa using l2 j u hj)) (by omega)
  exact ⟨zv, D, g1, by rw [g2]; simp [Ctx.ghost], hE.trans g3, g4, g5⟩
end Go.Proofs.Ev

