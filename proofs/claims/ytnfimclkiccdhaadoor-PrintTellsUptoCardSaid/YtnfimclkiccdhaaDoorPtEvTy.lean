import Derived.Test.YtnfimclkiccdhaaDoorPtEvWk
/-! What is known of types, as rules of reckoning. -/
namespace Go.Proofs.Ev
set_option linter.unusedSimpArgs false
set_option linter.unusedVariables false
open Go
variable {P : Program} {Γ : List (Nat × List AV)}

def tBld (P : Program) (T : TypeId) : Option (List AV × List (Nat × Nat)) := match P.underlying T, P.info? T with
  | some (.struct fs), some i => match zc i, aPlaces P fs.toList with
    | some z, some pl => some (z.toList.map ofCell, pl)
    | _, _ => none
  | _, _ => none
theorem aBuild_eq {T : TypeId} {z : List AV} {pl : List (Nat × Nat)} (h : tBld P T = some (z, pl)) (parts : List (Nat × AV)) : aBuild P T parts = (aFill (fun j => pl[j]?) z parts).map .agg := by
  unfold tBld at h
  unfold aBuild
  split at h <;> try (simp at h; done)
  rename_i fs i h1 h2
  split at h <;> try (simp at h; done)
  rename_i z' pl' h3 h4
  cases h
  simp only [h1, h2, h3, h4]
theorem fill_nil (pl : Nat → Option (Nat × Nat)) (cs : List AV) : aFill pl cs [] = some cs := rfl
theorem fill_cons (pl : Nat → Option (Nat × Nat)) (cs : List AV) (i : Nat) (v : AV) (rest : List (Nat × AV)) : aFill pl cs ((i, v) :: rest) = match pl i with
    | none => none
    | some (off, size) => if v.cells.length = size ∧ off + v.cells.length ≤ cs.length ∧ v.cells.all AV.one = true then aFill pl (aSplice cs off v.cells) rest else none := rfl

def tRow (P : Program) (T : TypeId) : Option Nat := match P.underlying T with
  | some (.slice e) => match P.info? e with
    | some i => match zc i with
      | some z => if 0 < i.size ∧ z.size = i.size then some i.size else none
      | none => none
    | none => none
  | _ => none
theorem aSplice_length {cs ds : List AV} {off : Nat} (h : off + ds.length ≤ cs.length) : (aSplice cs off ds).length = cs.length := by
  simp only [aSplice, List.length_append, List.length_take, List.length_drop]
  omega
theorem fill_row {sz : Nat} : ∀ (parts : List (Nat × AV)) (k : Nat) (cs : List AV), parts.map (·.1) = List.range' k parts.length → (k + parts.length) * sz ≤ cs.length → (∀ p ∈ parts, p.2.cells.length = sz ∧ p.2.cells.all AV.one = true) →
    ∃ ds, aFill (fun j => some (j * sz, sz)) cs parts = some ds ∧ ds.length = cs.length
  | [], _, cs, _, _, _ => ⟨cs, rfl, rfl⟩
  | (i, v) :: rest, k, cs, hk, hl, hp => by
    simp only [List.map_cons, List.length_cons, List.range'_succ, List.cons.injEq] at hk
    obtain ⟨rfl, hk⟩ := hk
    obtain ⟨h1, h2⟩ := hp _ List.mem_cons_self
    simp only at h1 h2
    simp only [List.length_cons] at hl
    have hle : i * sz + sz ≤ cs.length := by
      have : (i + 1) * sz ≤ (i + (rest.length + 1)) * sz := Nat.mul_le_mul_right _ (by omega)
      rw [Nat.add_mul, Nat.one_mul] at this
      omega
    have hs := aSplice_length (cs := cs) (ds := v.cells) (off := i * sz) (by rw [h1]; exact hle)
    obtain ⟨ds, e1, e2⟩ := fill_row rest (i + 1) (aSplice cs (i * sz) v.cells) hk (by rw [hs]; simpa [Nat.add_assoc, Nat.add_comm 1] using hl) (fun p hp' => hp p (List.mem_cons_of_mem _ hp'))
    refine ⟨ds, ?_, by rw [e2, hs]⟩
    simp only [fill_cons]
    rw [if_pos ⟨h1, by rw [h1]; exact hle, h2⟩]
    exact e1
theorem flat_len {sz : Nat} : ∀ (parts : List (Nat × AV)), (∀ p ∈ parts, p.2.cells.length = sz) → ((parts.map (·.2)).flatMap AV.cells).length = parts.length * sz
  | [], _ => by simp
  | p :: ps, h => by
    simp only [List.map_cons, List.flatMap_cons, List.length_append, List.length_cons]
    rw [flat_len ps (fun q hq => h q (List.mem_cons_of_mem _ hq)), h p List.mem_cons_self, Nat.add_mul, Nat.one_mul, Nat.add_comm]
theorem aBuildRow_eq {T : TypeId} {sz : Nat} (h : tRow P T = some sz) {len : Nat} {parts : List (Nat × AV)} (hl : len * sz ≤ 16777216) (hp : 0 < len) (hi : parts.map (·.1) = List.range len) (hv : ∀ p ∈ parts, p.2.cells.length = sz ∧ p.2.cells.all AV.one = true) :
    aBuildRow P T len parts = some (.sl sz (parts.map (·.2))) := by
  unfold tRow at h
  unfold aBuildRow
  split at h <;> try (simp at h; done)
  rename_i e h1
  split at h <;> try (simp at h; done)
  rename_i i h2
  split at h <;> try (simp at h; done)
  rename_i z h3
  split at h <;> try (simp at h; done)
  rename_i h4
  cases h
  have hlen : parts.length = len := by
    have := congrArg List.length hi
    simpa using this
  have hall : (parts.map (·.2)).all (fun v => v.cells.length == i.size) = true := by
    rw [List.all_eq_true]
    intro v hv'
    obtain ⟨p, hp', rfl⟩ := List.mem_map.1 hv'
    simpa using (hv p hp').1
  have hz : (aZeros (z.toList.map ofCell) (len * i.size)).length = len * i.size := by simp [aZeros]
  obtain ⟨ds, e1, e2⟩ := fill_row (sz := i.size) parts 0 (aZeros (z.toList.map ofCell) (len * i.size)) (by rw [hi, hlen]; exact List.range_eq_range') (by rw [hz, hlen]; simp) hv
  have hflat : ((parts.map (·.2)).flatMap AV.cells).length = len * i.size := by rw [← hlen]; exact flat_len parts fun p hp => (hv p hp).1
  simp only [h1, h2, h3]
  rw [if_pos ⟨hl, h4.1, hlen, hp, hall⟩, if_pos (by omega), e1]
  simp only
  rw [if_pos ⟨by rw [e2, hz, hflat], hi⟩]

def tApp (P : Program) (T : TypeId) : Option (Nat × Nat) := match P.underlying T with
  | some (.slice e) => match P.info? e with
    | some i => match i.zero with
      | some z => if z.cells.size = i.size ∧ z.cells.toList.all Value.oneCell' = true then some (i.size, i.bytes) else none
      | none => none
    | none => none
  | _ => none
/-- append where the right is held. -/
def appAt (σ : Sto) (nl : Bool) (sz b : Nat) (es : List AV) (k : Nat) (ds : List AV) : Option AO → Option (AV × Sto)
  | some (.cap m s) => if m = es.length ∧ s = sz ∧ fits (es.length + ds.length) b = true then
      if ds.length = 0 then some (.slo nl sz es k, σ) else some (.slo nl sz (es ++ ds) k, σ.set k (.cap (es.length + ds.length) sz))
    else none
  | _ => none
theorem aAppendO_eq {tS tX : TypeId} {sz b : Nat} (h : tApp P tS = some (sz, b)) (σ : Sto) (nl : Bool) (es : List AV) (k : Nat) (x : AV) :
    aAppendO P σ tS tX nl sz es k x = (aSrcE P tX sz x).bind fun ds => appAt σ nl sz b es k ds σ[k]? := by
  unfold tApp at h
  unfold aAppendO
  split at h <;> try (simp at h; done)
  rename_i e h1
  split at h <;> try (simp at h; done)
  rename_i i h2
  split at h <;> try (simp at h; done)
  rename_i z h3
  split at h <;> try (simp at h; done)
  rename_i h4
  cases h
  simp only [h1, h2, h3]
  rw [if_pos ⟨h4.1, h4.2, trivial⟩]
  cases aSrcE P tX i.size x with
  | none => rfl
  | some ds =>
    simp only [Option.bind_some]
    cases hk : σ[k]? with
    | none => simp [appAt]
    | some a =>
      cases a with
      | cap m s =>
        simp only [appAt, Option.bind_some]
        by_cases hc : m = es.length ∧ s = i.size ∧ fits (es.length + ds.length) i.bytes = true
        · rw [if_pos hc, if_pos ⟨by rw [hc.1, hc.2.1], hc.2.2⟩]
        · rw [if_neg hc, if_neg]
          rintro ⟨e, f⟩
          simp only [Option.some.injEq, Prod.mk.injEq] at e
          exact hc ⟨e.1, e.2, f⟩
      | _ => simp [appAt]
def aSrcS (sz : Nat) : AV → Option (List AV)
  | .nilsl => some []
  | .sl z es => if z = sz then some es else none
  | .slf z es => if z = sz then some es else none
  | .slo _ z es _ => if z = sz then some es else none
  | _ => none
theorem aSrcE_sl {tX : TypeId} (h : tLen P tX = some .sl) (sz : Nat) (x : AV) : aSrcE P tX sz x = aSrcS sz x := by
  unfold tLen at h
  split at h <;> try (simp at h; done)
  rename_i hT
  unfold aSrcE aSrcS
  simp only [hT]
  rfl
theorem srcS_sl (sz : Nat) (es : List AV) : aSrcS sz (.sl sz es) = some es := by simp [aSrcS]
theorem srcS_slf (sz : Nat) (es : List AV) : aSrcS sz (.slf sz es) = some es := by simp [aSrcS]
theorem srcS_slo (nl : Bool) (sz : Nat) (es : List AV) (k : Nat) : aSrcS sz (.slo nl sz es k) = some es := by simp [aSrcS]
theorem srcS_nil (sz : Nat) : aSrcS sz .nilsl = some [] := rfl
theorem aApp_slo (md : Bool) (σ : Sto) (t u : TypeId) (nl : Bool) (sz : Nat) (es : List AV) (k : Nat) (y : AV) : aApp P md σ t u (.slo nl sz es k) y = aAppendO P σ t u nl sz es k y := rfl
theorem aApp_slf (md : Bool) (σ : Sto) (t u : TypeId) (sz : Nat) (es : List AV) (y : AV) : aApp P md σ t u (.slf sz es) y = aAppendF P σ t u sz es y := rfl
theorem aApp_nil {t : TypeId} {sz : Nat} (h : tSize P t = some sz) (hs : 0 < sz) (σ : Sto) (u : TypeId) (y : AV) : aApp P false σ t u .nilsl y = aAppendO P (σ ++ [.cap 0 sz]) t u true sz [] σ.length y := by
  simp [aApp, h, hs]
theorem appAt_one (σ : Sto) (nl : Bool) (sz b : Nat) (es : List AV) (k m : Nat) (v : AV) (hm : m = es.length) (hf : fits (es.length + 1) b = true) : appAt σ nl sz b es k [v] (some (.cap m sz)) = some (.slo nl sz (es ++ [v]) k, σ.set k (.cap (es.length + 1) sz)) := by
  simp [appAt, hm, hf]

theorem aRow_sl {T : TypeId} (hb : bytesT P T = false) {len : Nat} (hl : len ≠ 0) {parts : List (Nat × AV)} {v : AV} (h : aBuildRow P T len parts = some v) (σ : Sto) : aRow P false σ T len parts = some (v, σ) := by
  simp [aRow, hl, h, hb]
theorem aRow_slf {T : TypeId} (hb : bytesT P T = true) {len : Nat} (hl : len ≠ 0) {parts : List (Nat × AV)} {v : AV} (h : aBuildRow P T len parts = some v) (σ : Sto) : aRow P false σ T len parts = some (v.full, σ) := by
  simp [aRow, hl, h, hb]
theorem bin_ptr {T : TypeId} (h : tyPtr P T = true) (o off : Nat) : aBin P .eql T (.ref o off) (.val (.pointer none)) = some (.val (.bool false)) := by simp only [aBin, h, if_true]
theorem bin_ptrn {T : TypeId} (h : tyPtr P T = true) (o off : Nat) : aBin P .neq T (.ref o off) (.val (.pointer none)) = some (.val (.bool true)) := by simp only [aBin, h, if_true]
/-- Loads and stores of what may be written. -/
def aLoadAt (P : Program) (T : TypeId) (off : Nat) : Option AO → Option AV
  | some (.cells cs) => aGet P T (cs.drop off)
  | _ => none
theorem load_ref' (σ : Sto) (T : TypeId) (o off : Nat) : aLoad P σ T (.ref o off) = aLoadAt P T off σ[o]? := by
  cases h : σ[o]? with
  | none => simp only [aLoad, aLoadAt, h]
  | some a => cases a <;> simp only [aLoad, aLoadAt, h]
theorem loadAt_cells (T : TypeId) (off : Nat) (cs : List AV) : aLoadAt P T off (some (.cells cs)) = aGet P T (cs.drop off) := rfl
def aStoreAt (σ : Sto) (n : Nat) (v : AV) (o off : Nat) : Option AO → Option Sto
  | some (.cells cs) => if n = v.cells.length ∧ off + v.cells.length ≤ cs.length ∧ v.cells.all AV.one = true then some (σ.set o (.cells (aSplice cs off v.cells))) else none
  | _ => none
theorem storeN_ref (σ : Sto) (n : Nat) (v : AV) (o off : Nat) : aStoreN σ n v (.ref o off) = aStoreAt σ n v o off σ[o]? := by
  cases h : σ[o]? with
  | none => simp only [aStoreN, aStoreAt, h]
  | some a => cases a <;> simp only [aStoreN, aStoreAt, h]
theorem storeAt_cells (σ : Sto) (n : Nat) (v : AV) (o off : Nat) (cs : List AV) : aStoreAt σ n v o off (some (.cells cs)) = if n = v.cells.length ∧ off + v.cells.length ≤ cs.length ∧ v.cells.all AV.one = true then some (σ.set o (.cells (aSplice cs off v.cells))) else none := rfl

def tCvt (P : Program) (T : TypeId) : Option IntKind := match P.underlying T with
  | some (.int k) => some k
  | _ => none
theorem aConvert_int {s d : TypeId} {ks k : IntKind} (h1 : tCvt P s = some ks) (h2 : tCvt P d = some k) (k' : IntKind) (n : Int) : aConvert P s d (.val (.int k' n)) = some (.val (.int k (k.wrap n))) := by
  unfold tCvt at h1 h2
  split at h1 <;> try (simp at h1; done)
  rename_i e1
  split at h2 <;> try (simp at h2; done)
  rename_i e2
  cases h2
  unfold aConvert
  simp only [e1, e2]
theorem aConv_int {s d : TypeId} {ks k : IntKind} (h1 : tCvt P s = some ks) (h2 : tCvt P d = some k) (k' : IntKind) (n : Int) (σ : Sto) : aConv P σ s d (.val (.int k' n)) = some (.val (.int k (k.wrap n)), σ) := by
  simp only [aConv, aConvert_int h1 h2]
theorem aConv_str {s d : TypeId} (h1 : tBytes P s = true) (h2 : tLen P d = some .str) (σ : Sto) (x : AV) (hx : ∀ k n, x ≠ .val (.int k n)) (hs : ∀ u, x ≠ .val (.string u)) : aConv P σ s d x = (aStrOf P σ s d x).map (·, σ) := by
  unfold tBytes at h1
  split at h1 <;> try (simp at h1; done)
  rename_i e he
  have : aConvert P s d x = none := by
    unfold aConvert
    rw [he]
  have hns : bytesTo P s d = false := by
    unfold bytesTo tyStr
    rw [he]
    rfl
  simp only [aConv, this, hns, Bool.false_eq_true, if_false]
theorem aConv_toB {s d : TypeId} (h1 : tyStr P s = true) (h2 : tBytes P d = true) (σ : Sto) (x : ByteArray) (hx : x.size ≤ 4611686018427387904) : aConv P σ s d (.val (.string x)) = some (.sl 1 (x.data.toList.map byteAV), σ) := by
  have h0 : P.underlying s = some .string := by
    unfold tyStr at h1
    split at h1 <;> simp_all
  have hc : aConvert P s d (.val (.string x)) = none := by
    unfold aConvert
    unfold tBytes at h2
    split at h2 <;> try (simp at h2; done)
    rename_i e he
    rw [h0, he]
  simp only [aConv, hc, bytesTo, h1, h2, Bool.and_self, if_true, aToB, if_pos hx]
  rfl
theorem index_str {T : TypeId} (h : tyStr P T = true) (s : ByteArray) (k : IntKind) (i : Nat) (hi : i < s.size) : aIndex P T (.val (.string s)) (.val (.int k i)) = some (.val (.int .u8 (s[i]'hi).toNat)) := by
  simp [aIndex, h, hi]
def tMk (P : Program) (T : TypeId) : Option (List AV × Nat × Nat) := match P.underlying T with
  | some (.slice e) => match P.info? e with
    | some i => match zc i with
      | some z => if 0 < i.size ∧ z.size = i.size then some (z.toList.map ofCell, i.size, i.bytes) else none
      | none => none
    | none => none
  | _ => none
theorem aMakeSlice_eq {T : TypeId} {z : List AV} {sz b : Nat} (h : tMk P T = some (z, sz, b)) (σ : Sto) (k k' : IntKind) (n : Int) : aMakeSlice P σ T (.val (.int k n)) (.val (.int k' n)) = if 0 ≤ n ∧ fits n.toNat b = true then some (.osl σ.length 0 n.toNat sz, σ ++ [.cells (aZeros z (n.toNat * sz))]) else none := by
  unfold tMk at h
  split at h <;> try (simp at h; done)
  rename_i e h1
  split at h <;> try (simp at h; done)
  rename_i i h2
  split at h <;> try (simp at h; done)
  rename_i z' h3
  split at h <;> try (simp at h; done)
  rename_i h4
  cases h
  simp only [aMakeSlice, h1, h2, h3, true_and, h4]
theorem aRow_live {T : TypeId} {z : List AV} {sz b : Nat} (h : tMk P T = some (z, sz, b)) (hm : sz ≤ 16777216) (σ : Sto) (v : AV) (hv : v.cells.length = sz) (h1 : v.cells.all AV.one = true) : aRow P true σ T 1 [(0, v)] = some (.osl σ.length 0 1 sz, σ ++ [.cells v.cells]) := by
  unfold tMk at h
  split at h <;> try (simp at h; done)
  rename_i e h1'
  split at h <;> try (simp at h; done)
  rename_i i h2
  split at h <;> try (simp at h; done)
  rename_i z' h3
  split at h <;> try (simp at h; done)
  rename_i h4
  cases h
  have hl : (aZeros (z'.toList.map ofCell) (1 * i.size)).length = i.size := by simp [aZeros]
  have hne : ¬ 1 * i.size = 0 := by omega
  simp only [aRow, if_true, aBuildSlice, h1', h2, if_neg hne, h3]
  rw [if_pos ⟨by omega, h4.1⟩, if_pos (by omega)]
  simp only [aFill, Nat.zero_mul]
  rw [if_pos ⟨hv, by rw [hl]; omega, h1⟩]
  have : aSplice (aZeros (z'.toList.map ofCell) (1 * i.size)) 0 v.cells = v.cells := by
    simp only [aSplice, List.take_zero, List.nil_append, Nat.zero_add]
    rw [List.drop_eq_nil_of_le (by rw [hl]; omega), List.append_nil]
  simp only [this]
theorem aRow_zero {T : TypeId} {sz : Nat} (h : tSize P T = some sz) (hs : 0 < sz) (σ : Sto) : aRow P false σ T 0 [] = some (.slo false sz [] σ.length, σ ++ [.cap 0 sz]) := by
  simp [aRow, h, hs]
attribute [go_sem] if_true if_false and_self and_true Nat.le_refl Nat.zero_add aSplice List.take_nil List.drop_nil List.append_nil fill_nil fill_cons aApp_slo aApp_slf srcS_sl srcS_slf srcS_slo srcS_nil load_ref' loadAt_cells storeN_ref storeAt_cells Option.bind_some Option.bind_none
end Go.Proofs.Ev

