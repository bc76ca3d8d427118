import Derived.Test.YtnfimclkiccdhaaDoorPtEvAppend
/-! What is made: struct values, rows, variables. -/
namespace Go.Proofs.Ev
set_option linter.unusedSimpArgs false
set_option linter.unusedVariables false
open Go
variable {P : Program}

def aZeros (zc : List AV) (n : Nat) : List AV := (List.range n).map fun j => zc.getD (j % zc.length) .any
theorem relL_map {C : Ctx} {α : Type} (f : α → AV) (g : α → Value) : ∀ (l : List α), (∀ x ∈ l, RelV C (f x) (g x)) → RelL C (l.map f) (l.map g)
  | [], _ => trivial
  | x :: l, h => ⟨h x List.mem_cons_self, relL_map f g l (fun y hy => h y (List.mem_cons_of_mem _ hy))⟩
theorem aZeros_ok {C : Ctx} {zc : List AV} {z : Array Value} (n : Nat) (hl : RelL C zc z.toList) (h : n = 0 ∨ 0 < zc.length) : RelL C (aZeros zc n) ((Array.range n).map (fun i => z[i % z.size]!)).toList := by
  have hlen := relL_length hl
  simp only [Array.length_toList] at hlen
  simp only [Array.toList_map, Array.toList_range, aZeros]
  refine relL_map _ _ _ fun j hj => ?_
  have hj := List.mem_range.1 hj
  have hpos : 0 < zc.length := by omega
  have hlt := Nat.mod_lt j hpos
  obtain ⟨x, hx, hr⟩ := relL_get hl (i := j % zc.length) (c := zc[j % zc.length]) (by simp [hlt])
  rw [List.getD_eq_getElem?_getD, List.getElem?_eq_getElem hlt]
  have : z[j % z.size]! = x := by
    rw [← hlen]
    rw [getElem!_def]
    rw [Array.getElem?_toList] at hx
    rw [hx]
  rw [this]
  exact hr
theorem aZeros_one {z : Array Value} (n : Nat) (h1 : z.toList.all Value.oneCell' = true) (h : n = 0 ∨ 0 < z.size) : ∀ u ∈ ((Array.range n).map (fun i => z[i % z.size]!)).toList, u.oneCell' = true := by
  intro u hu
  simp only [Array.toList_map, Array.toList_range, List.mem_map, List.mem_range] at hu
  obtain ⟨j, hj, rfl⟩ := hu
  have hlt := Nat.mod_lt j (show 0 < z.size by omega)
  rw [getElem!_pos z _ hlt]
  exact List.all_eq_true.1 h1 _ (by simp)

def aFill (place : Nat → Option (Nat × Nat)) (cells : List AV) : List (Nat × AV) → Option (List AV)
  | [] => some cells
  | (i, v) :: rest => match place i with
    | none => none
    | some (off, size) => if v.cells.length = size ∧ off + v.cells.length ≤ cells.length ∧ v.cells.all AV.one = true then aFill place (aSplice cells off v.cells) rest else none

theorem splice_foldl (off : Nat) : ∀ (vs : List Value) (k : Nat) (arr : Array Value), off + k + vs.length ≤ arr.size →
    ((vs.zipIdx k).foldl (fun (cs : Array Value) (cj : Value × Nat) => cs.setIfInBounds (off + cj.2) cj.1) arr).toList = arr.toList.take (off + k) ++ vs ++ arr.toList.drop (off + k + vs.length)
  | [], k, arr, _ => by simp
  | v :: vs, k, arr, h => by
    simp only [List.zipIdx_cons, List.foldl_cons]
    rw [splice_foldl off vs (k + 1) _ (by simp at h ⊢; omega)]
    simp only [Array.toList_setIfInBounds, List.length_cons] at h ⊢
    have e := list_seg_step arr.toList (off + k) v vs (by simp; omega)
    simpa [Nat.add_assoc] using e
theorem aFill_ok {C : Ctx} (place : Nat → Option (Nat × Nat)) : ∀ (ps : List (Nat × AV)) (qs : List (Nat × Value)) (cs : List AV) (arr : Array Value) (ds : List AV), RelL C cs arr.toList → (∀ u ∈ arr.toList, u.oneCell' = true) →
    ps.map (·.1) = qs.map (·.1) → RelL C (ps.map (·.2)) (qs.map (·.2)) → aFill place cs ps = some ds →
    ∃ arr', Instr.fill place arr qs = some arr' ∧ RelL C ds arr'.toList ∧ ∀ u ∈ arr'.toList, u.oneCell' = true
  | [], [], cs, arr, ds, hl, h1, _, _, h => by
    cases h
    exact ⟨arr, rfl, hl, h1⟩
  | (i, v) :: ps, (j, x) :: qs, cs, arr, ds, hl, h1, hi, hr, h => by
    simp only [List.map_cons, List.cons.injEq] at hi
    obtain ⟨rfl, hi⟩ := hi
    simp only [aFill] at h
    split at h <;> try (simp at h; done)
    rename_i off size hp
    split at h <;> try (simp at h; done)
    rename_i hc
    obtain ⟨hs, hfit, hone⟩ := hc
    have hcl := cells_ok hr.1 hone
    have hx1 := ones_ok hcl hone
    have hlen := relL_length hcl
    have hlen2 := relL_length hl
    simp only [Array.length_toList] at hlen hlen2
    have hfold := splice_foldl off x.cells.toList 0 arr (by simp; omega)
    simp only [Nat.add_zero] at hfold
    have hrest := aFill_ok place ps qs (aSplice cs off v.cells) ((x.cells.toList.zipIdx 0).foldl (fun (cs : Array Value) (cj : Value × Nat) => cs.setIfInBounds (off + cj.2) cj.1) arr) ds (by
        rw [hfold]
        unfold aSplice
        rw [hlen]
        simp only [Array.length_toList]
        exact relL_append (relL_append (relL_take _ hl) hcl) (relL_drop _ hl)) (by
        rw [hfold]
        intro u hu
        rcases List.mem_append.1 hu with hu | hu
        · rcases List.mem_append.1 hu with hu | hu
          · exact h1 u (List.mem_of_mem_take hu)
          · exact hx1 u hu
        · exact h1 u (List.mem_of_mem_drop hu)) hi hr.2 h
    obtain ⟨arr', k1, k2, k3⟩ := hrest
    refine ⟨arr', ?_, k2, k3⟩
    simp only [Instr.fill, hp]
    have e1 : ¬ (x.cells.size ≠ size ∨ off + x.cells.size > arr.size) := by omega
    rw [if_neg (by simpa using e1)]
    rw [← k1]
    congr 1
    rw [← Array.foldl_toList, Array.toList_zipIdx]
  | [], _ :: _, _, _, _, _, _, hi, _, _ => by simp at hi
  | _ :: _, [], _, _, _, _, _, hi, _, _ => by simp at hi

def zc (i : TypeInfo) : Option (Array Value) := match i.zero with
  | some z => if z.cells.toList.all Value.oneCell' = true then some z.cells else none
  | none => none
theorem ofCells_ok {C : Ctx} : ∀ (l : List Value), RelL C (l.map ofCell) l
  | [] => trivial
  | a :: l => ⟨ofCell_ok C a, ofCells_ok l⟩

def aBuildSlice (P : Program) (σ : List AO) (T : TypeId) (len : Nat) (parts : List (Nat × AV)) : Option (AV × List AO) :=
  match P.underlying T with
  | some (.slice e) => match P.info? e with
    | some i => if len * i.size ≤ 16777216 ∧ 0 < i.size then
        match (if len * i.size = 0 then some #[] else zc i) with
        | some z => if len * i.size = 0 ∨ 0 < z.size then
            match aFill (fun j => some (j * i.size, i.size)) (aZeros (z.toList.map ofCell) (len * i.size)) parts with
            | some cs => some (.osl σ.length 0 len i.size, σ ++ [.cells cs])
            | none => none
          else none
        | none => none
      else none
    | none => none
  | _ => none
theorem aFill_length (place : Nat → Option (Nat × Nat)) : ∀ (ps : List (Nat × AV)) (cs ds : List AV), aFill place cs ps = some ds → ds.length = cs.length
  | [], cs, ds, h => by cases h; rfl
  | (i, v) :: ps, cs, ds, h => by
    simp only [aFill] at h
    split at h <;> try (simp at h; done)
    split at h <;> try (simp at h; done)
    rename_i hc
    have := aFill_length place ps _ ds h
    rw [this]
    simp [aSplice]
    omega
theorem aBuildSlice_ok {C : Ctx} (hS : RelS C) {T : TypeId} {len : Nat} {ps : List (Nat × AV)} {qs : Array (Nat × Value)} {v : AV} {σ' : List AO} (hi : ps.map (·.1) = qs.toList.map (·.1)) (hr : RelL C (ps.map (·.2)) (qs.toList.map (·.2)))
    (h : aBuildSlice P C.σ T len ps = some (v, σ')) : ∃ (z : Value) (D : Ctx), (Instr.buildSlice T len qs).run P C.w = .ok z D.w ∧ D.σ = σ' ∧ Ext C D ∧ RelS D ∧ RelV D v z := by
  unfold aBuildSlice at h
  split at h <;> try (simp at h; done)
  rename_i e hT
  split at h <;> try (simp at h; done)
  rename_i i hie
  split at h <;> try (simp at h; done)
  rename_i hmax
  obtain ⟨hmax, hsz0⟩ := hmax
  split at h <;> try (simp at h; done)
  rename_i z hz
  split at h <;> try (simp at h; done)
  rename_i hpos
  split at h <;> try (simp at h; done)
  rename_i cs hcs
  cases h
  have hz1 : z.toList.all Value.oneCell' = true := by
    split at hz
    · cases hz; rfl
    · unfold zc at hz
      split at hz <;> try (simp at hz; done)
      split at hz <;> try (simp at hz; done)
      rename_i hzz
      cases hz
      exact hzz
  obtain ⟨arr, k1, k2, k3⟩ := aFill_ok (C := C) (fun j => some (j * i.size, i.size)) ps qs.toList _ ((Array.range (len * i.size)).map (fun j => z[j % z.size]!)) cs
    (aZeros_ok _ (ofCells_ok z.toList) (by simpa using hpos)) (aZeros_one _ hz1 hpos) hi hr hcs
  have hlen : arr.size = len * i.size := by
    have h1 := relL_length k2
    have h2 := aFill_length _ _ _ _ hcs
    simp [aZeros] at h2
    simp at h1
    omega
  obtain ⟨g1, g2, g3⟩ := grow_ok hS (cs := cs) (arr := arr) e (by rw [relL_length k2, List.take_length]; exact k2) (by rw [relL_length k2]; simp) k3 (len := len) (c := len) (sz := i.size) (Nat.le_refl _) (by
    have : len ≤ len * i.size := Nat.le_mul_of_pos_right _ hsz0
    simp only [maxLen]; omega) (by omega)
  refine ⟨_, _, ?_, rfl, g1, g2, g3⟩
  have hm' : ¬ (16777216 < len * i.size) := by omega
  split at hz
  · rename_i h0
    cases hz
    simp only [h0] at k1
    rcases Nat.mul_eq_zero.1 h0 with e0 | e0
    · simp [Instr.buildSlice, run_underlying hT, sizeOf, typeInfo, hie, e0, newRow, Ctx.new] at k1 ⊢
      simp [k1]
    · omega
  · rename_i h0
    unfold zc at hz
    split at hz <;> try (simp at hz; done)
    rename_i zz hzz
    split at hz <;> try (simp at hz; done)
    cases hz
    simp [Instr.buildSlice, run_underlying hT, sizeOf, typeInfo, zeroValue, hie, hzz, hm', k1, newRow, Ctx.new]
    exact fun h => absurd h h0

/-- A row that is laid whole and never written. -/
def aBuildRow (P : Program) (T : TypeId) (len : Nat) (parts : List (Nat × AV)) : Option AV :=
  match P.underlying T with
  | some (.slice e) => match P.info? e with
    | some i => if len * i.size ≤ 16777216 ∧ 0 < i.size ∧ parts.length = len ∧ 0 < len ∧ (parts.map (·.2)).all (fun v => v.cells.length == i.size) = true then
        match zc i with
        | some z => if 0 < z.size then
            match aFill (fun j => some (j * i.size, i.size)) (aZeros (z.toList.map ofCell) (len * i.size)) parts with
            | some cs => if cs.length = ((parts.map (·.2)).flatMap AV.cells).length ∧ parts.map (·.1) = List.range len then some (.sl i.size (parts.map (·.2))) else none
            | none => none
          else none
        | none => none
      else none
    | none => none
  | _ => none
theorem aFill_range (sz : Nat) : ∀ (vs : List AV) (n : Nat) (pre post : List AV) (ds : List AV), pre.length = n * sz → post.length = vs.length * sz → (∀ v ∈ vs, v.cells.length = sz) →
    aFill (fun j => some (j * sz, sz)) (pre ++ post) ((List.range' n vs.length).zip vs) = some ds → ds = pre ++ vs.flatMap AV.cells
  | [], n, pre, post, ds, _, hpost, _, h => by
    simp at hpost
    subst hpost
    simp [aFill] at h
    simp [h]
  | v :: vs, n, pre, post, ds, hpre, hpost, hsz, h => by
    have hv := hsz v List.mem_cons_self
    simp only [List.length_cons, List.range'_succ, List.zip_cons_cons, aFill] at h
    split at h <;> try (simp at h; done)
    have e : aSplice (pre ++ post) (n * sz) v.cells = (pre ++ v.cells) ++ post.drop sz := by
      unfold aSplice
      rw [← hpre, List.take_left, hv, List.drop_append]
      have : pre.drop (pre.length + sz) = [] := by simp
      rw [this]
      simp
    rw [e] at h
    have := aFill_range sz vs (n + 1) (pre ++ v.cells) (post.drop sz) ds (by simp [hpre, hv, Nat.add_mul]) (by simp [hpost, Nat.add_mul]) (fun u hu => hsz u (List.mem_cons_of_mem _ hu)) h
    rw [this]
    simp
theorem zip_parts : ∀ (parts : List (Nat × AV)), parts = (parts.map (·.1)).zip (parts.map (·.2))
  | [] => rfl
  | p :: ps => by
    simp only [List.map_cons, List.zip_cons_cons]
    rw [← zip_parts ps]
def bytesT (P : Program) (T : TypeId) : Bool := match P.underlying T with
  | some (.slice e) => match P.underlying e with
    | some (.int .u8) => true
    | _ => false
  | _ => false
/-- A row that is full. -/
def AV.full : AV → AV
  | .sl sz es => .slf sz es
  | v => v
theorem full_rel {C : Ctx} {v : AV} {x : Value} (h : RelV C v.full x) : RelV C v x := by
  cases v with
  | sl sz es => exact slf_sl h
  | _ => exact h
theorem aBuildRow_ok {C : Ctx} (hS : RelS C) {T : TypeId} {len : Nat} {ps : List (Nat × AV)} {qs : Array (Nat × Value)} {v : AV} (hi : ps.map (·.1) = qs.toList.map (·.1)) (hr : RelL C (ps.map (·.2)) (qs.toList.map (·.2)))
    (h : aBuildRow P T len ps = some v) : ∃ (z : Value) (D : Ctx), (Instr.buildSlice T len qs).run P C.w = .ok z D.w ∧ D.σ = C.σ ∧ Ext C D ∧ RelS D ∧ RelV D v.full z := by
  unfold aBuildRow at h
  split at h <;> try (simp at h; done)
  rename_i e hT
  split at h <;> try (simp at h; done)
  rename_i i hie
  split at h <;> try (simp at h; done)
  rename_i hc
  obtain ⟨hmax, hsz0, hlen, hlen0, hall⟩ := hc
  split at h <;> try (simp at h; done)
  rename_i z hz
  split at h <;> try (simp at h; done)
  rename_i hpos
  split at h <;> try (simp at h; done)
  rename_i cs hcs
  split at h <;> try (simp at h; done)
  rename_i hcc
  obtain ⟨hcl, hrange⟩ := hcc
  cases h
  unfold zc at hz
  split at hz <;> try (simp at hz; done)
  rename_i zz hzz
  split at hz <;> try (simp at hz; done)
  rename_i hz1
  cases hz
  have hsz : ∀ u ∈ ps.map (·.2), u.cells.length = i.size := fun u hu => by simpa using List.all_eq_true.1 hall u hu
  have hcs2 : cs = (ps.map (·.2)).flatMap AV.cells := by
    have h0 := hcs
    rw [zip_parts ps, hrange, List.range_eq_range'] at h0
    have := aFill_range i.size (ps.map (·.2)) 0 [] (aZeros (zz.cells.toList.map ofCell) (len * i.size)) cs (by simp) (by simp [aZeros, hlen]) hsz (by simpa [hlen] using h0)
    simpa using this
  obtain ⟨arr, k1, k2, k3⟩ := aFill_ok (C := C) (fun j => some (j * i.size, i.size)) ps qs.toList _ ((Array.range (len * i.size)).map (fun j => zz.cells[j % zz.cells.size]!)) cs
    (aZeros_ok _ (ofCells_ok zz.cells.toList) (.inr (by simpa using hpos))) (aZeros_one _ hz1 (.inr hpos)) hi hr hcs
  have h0 : ¬ (len * i.size = 0) := Nat.pos_iff_ne_zero.1 (Nat.mul_pos hlen0 hsz0)
  have hm' : ¬ (16777216 < len * i.size) := by omega
  have hblk : (C.lay (.cells arr e)).w.heap[C.w.heap.size]? = some (.cells arr e (0, 0)) := heap_alloc_at _ _
  refine ⟨.slice (some ⟨C.w.heap.size, 0, none⟩) len len, C.lay (.cells arr e), ?_, rfl, lay_ext hS _, lay_rel hS _, ?_⟩
  · simp [Instr.buildSlice, run_underlying hT, sizeOf, typeInfo, zeroValue, hie, hzz, hm', k1, newRow, Ctx.lay]
    exact fun h => absurd h h0
  · have hpl : (ps.map (·.2)).length = len := by simpa using hlen
    refine ⟨C.w.heap.size, by rw [hpl], fun e => by rw [e] at hpl; simp at hpl; omega, hsz0, ?_, relRow_of hsz ?_⟩
    · rw [hpl]
      have : len ≤ len * i.size := Nat.le_mul_of_pos_right _ hsz0
      simp only [maxLen]
      omega
    · rw [← hcs2]
      refine relAt_of (xs := arr.toList) (RelL.mono (lay_ext hS _) k2) (fun j u hj => ⟨?_, k3 u (List.mem_of_getElem? hj)⟩) (fun j _ => (lay_fix hS _).cell _)
      rw [cell_of_row _ _ _ _ _ _ hblk, Nat.zero_add]
      simpa using hj

def aMakeSlice (P : Program) (σ : List AO) (T : TypeId) : AV → AV → Option (AV × List AO)
  | .val (.int _ n), .val (.int _ m) => match P.underlying T with
    | some (.slice e) => match P.info? e with
      | some i => match zc i with
        | some z => if n = m ∧ 0 ≤ n ∧ 0 < i.size ∧ z.size = i.size ∧ fits n.toNat i.bytes = true then
            some (.osl σ.length 0 n.toNat i.size, σ ++ [.cells (aZeros (z.toList.map ofCell) (n.toNat * i.size))]) else none
        | none => none
      | none => none
    | _ => none
  | _, _ => none
theorem aMakeSlice_ok {C : Ctx} (hS : RelS C) {T : TypeId} {p q v : AV} {x y : Value} {σ' : List AO} (hp : RelV C p x) (hq : RelV C q y) (h : aMakeSlice P C.σ T p q = some (v, σ')) :
    ∃ (z : Value) (D : Ctx), (Instr.makeSlice T x y).run P C.w = .ok z D.w ∧ D.σ = σ' ∧ Ext C D ∧ RelS D ∧ RelV D v z := by
  unfold aMakeSlice at h
  split at h <;> try (simp at h; done)
  rename_i k n k' m
  cases hp
  cases hq
  split at h <;> try (simp at h; done)
  rename_i e hT
  split at h <;> try (simp at h; done)
  rename_i i hie
  split at h <;> try (simp at h; done)
  rename_i z hz
  split at h <;> try (simp at h; done)
  rename_i hc
  obtain ⟨rfl, h0, hsz, hzs, hfit⟩ := hc
  cases h
  unfold zc at hz
  split at hz <;> try (simp at hz; done)
  rename_i zz hzz
  split at hz <;> try (simp at hz; done)
  rename_i hz1
  cases hz
  simp only [fits, Bool.and_eq_true, decide_eq_true_eq] at hfit
  obtain ⟨N, rfl⟩ := Int.eq_ofNat_of_zero_le h0
  simp only [Int.toNat_natCast] at hfit ⊢
  have hk1 := aZeros_ok (C := C) (N * i.size) (ofCells_ok zz.cells.toList) (.inr (by simp; omega))
  have hk2 := aZeros_one (N * i.size) hz1 (.inr (by omega))
  obtain ⟨g1, g2, g3⟩ := grow_ok hS (cs := aZeros (zz.cells.toList.map ofCell) (N * i.size)) (arr := (Array.range (N * i.size)).map (fun j => zz.cells[j % zz.cells.size]!)) e (by rw [relL_length hk1, List.take_length]; exact hk1) (by rw [relL_length hk1]; simp) hk2 (len := N) (c := N) (sz := i.size) (Nat.le_refl _) (by
    simp only [maxLen]; omega) (by simp)
  refine ⟨_, _, ?_, rfl, g1, g2, g3⟩
  have hw : IntKind.i64.wrap (N : Int) = N := by
    simp only [IntKind.wrap, IntKind.bits, IntKind.signed]
    have : (N : Int) % 2 ^ 64 = N := Int.emod_eq_of_lt (by omega) (by omega)
    simp only [this]
    simp
    omega
  have hb : ¬ (281474976710656 < (i.bytes : Int) * N) := by
    have : ((N * i.bytes : Nat) : Int) ≤ 140737488355328 := by omega
    rw [Int.natCast_mul, Int.mul_comm] at this
    omega
  have hroom : ¬ (140737488355328 < N * i.bytes) := by omega
  have hne : ¬ (N = 0 ∨ i.size = 0) ∨ N = 0 := by omega
  rcases hne with hne | hne
  · have hne1 : ¬ (N * i.size = 0) := fun h => hne (Nat.mul_eq_zero.1 h)
    have hlt : ¬ ((N : Int) < 0) := by omega
    simp [Instr.makeSlice, run_underlying hT, asInt, asIntOf, hne1, hlt, sizeOf, typeInfo, zeroValue, hie, hzz, hw, hb, askRoom, newRow, Ctx.new]
  · subst hne
    have hw0 : IntKind.i64.wrap 0 = 0 := by decide
    simp [Instr.makeSlice, run_underlying hT, asInt, asIntOf, sizeOf, typeInfo, hie, askRoom, newRow, Ctx.new, hw0]
    congr 2
    apply Array.ext <;> simp

def aPlaces (P : Program) : List Field → Option (List (Nat × Nat))
  | [] => some []
  | f :: fs => match P.info? f.type, aPlaces P fs with
    | some i, some r => some ((f.offset, i.size) :: r)
    | _, _ => none
def aBuild (P : Program) (T : TypeId) (parts : List (Nat × AV)) : Option AV :=
  match P.underlying T, P.info? T with
  | some (.struct fs), some i => match zc i, aPlaces P fs.toList with
    | some z, some pl => (aFill (fun j => pl[j]?) (z.toList.map ofCell) parts).map .agg
    | _, _ => none
  | _, _ => none
theorem aPlaces_ok : ∀ (fs : List Field) (pl : List (Nat × Nat)), aPlaces P fs = some pl → ∀ w : World, (fs.mapM fun f => Prod.mk f.offset <$> sizeOf f.type : Sem (List (Nat × Nat))).run P w = .ok pl w
  | [], pl, h, w => by cases h; simp
  | f :: fs, pl, h, w => by
    simp only [aPlaces] at h
    split at h <;> try (simp at h; done)
    rename_i i r hi hr
    cases h
    have := aPlaces_ok fs r hr w
    have hsz : (sizeOf f.type).run P w = .ok i.size w := by simp [sizeOf, typeInfo, hi]
    simp [List.mapM_cons, this, hsz]
theorem aBuild_ok {C : Ctx} {T : TypeId} {ps : List (Nat × AV)} {qs : Array (Nat × Value)} {v : AV} (hi : ps.map (·.1) = qs.toList.map (·.1)) (hr : RelL C (ps.map (·.2)) (qs.toList.map (·.2)))
    (h : aBuild P T ps = some v) : ∃ z : Value, (Instr.build T qs).run P C.w = .ok z C.w ∧ RelV C v z := by
  unfold aBuild at h
  split at h <;> try (simp at h; done)
  rename_i fs i hT hie
  split at h <;> try (simp at h; done)
  rename_i z pl hz hpl
  obtain ⟨cs, hcs, rfl⟩ := Option.map_eq_some_iff.1 h
  unfold zc at hz
  split at hz <;> try (simp at hz; done)
  rename_i zz hzz
  split at hz <;> try (simp at hz; done)
  rename_i hz1
  cases hz
  obtain ⟨arr, k1, k2, k3⟩ := aFill_ok (C := C) (fun j => pl[j]?) ps qs.toList _ zz.cells cs (ofCells_ok zz.cells.toList) (List.all_eq_true.1 hz1) hi hr hcs
  refine ⟨.agg arr, ?_, ⟨arr.toList, by simp, k2⟩⟩
  have hpl' := aPlaces_ok fs.toList pl hpl C.w
  simp only [Instr.build, Sem.run_bind, zeroValue, typeInfo]
  simp [hie, hzz, run_underlying hT, Array.mapM_eq_mapM_toList]
  rw [hpl']
  simp [k1]
end Go.Proofs.Ev

