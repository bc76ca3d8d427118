import Derived.Test.YtnfimclkiccdhaaDoorPtEvOps3
import Derived.Laws.IdiomStrings
import Derived.Laws.BytesArg
/-! A row of bytes as a string. -/
namespace Go.Proofs.Ev
set_option linter.unusedSimpArgs false
set_option linter.unusedVariables false
open Go
variable {P : Program}
def byteAV (b : UInt8) : AV := .val (.int .u8 b.toNat)
def byteOf : AV → Option UInt8
  | .val (.int .u8 n) => if 0 ≤ n ∧ n < 256 then some (UInt8.ofNat n.toNat) else none
  | _ => none
theorem byteOf_eq {v : AV} {b : UInt8} (h : byteOf v = some b) : v = byteAV b := by
  unfold byteOf at h
  split at h <;> try (simp at h; done)
  split at h <;> try (simp at h; done)
  rename_i n hn
  cases h
  have : (UInt8.ofNat n.toNat).toNat = n.toNat := by rw [UInt8.toNat_ofNat']; omega
  simp only [byteAV, this]
  congr 2
  omega
def bytesOf : List AV → Option (List UInt8)
  | [] => some []
  | v :: l => match byteOf v, bytesOf l with
    | some b, some bs => some (b :: bs)
    | _, _ => none
theorem bytesOf_eq : ∀ {l : List AV} {bs : List UInt8}, bytesOf l = some bs → l = bs.map byteAV
  | [], _, h => by cases h; rfl
  | v :: l, bs, h => by
    unfold bytesOf at h
    split at h <;> try (simp at h; done)
    rename_i b bs' h1 h2
    cases h
    rw [byteOf_eq h1, bytesOf_eq h2]
    rfl
theorem bytesOf_map : ∀ (bs : List UInt8), bytesOf (bs.map byteAV) = some bs
  | [] => rfl
  | b :: bs => by
    have hb : byteOf (byteAV b) = some b := by
      simp only [byteOf, byteAV]
      have := b.toNat_lt
      rw [if_pos ⟨by omega, by omega⟩]
      simp
    simp only [List.map_cons, bytesOf, hb, bytesOf_map bs]
def aStrOf (P : Program) (σ : List AO) (src dst : TypeId) (x : AV) : Option AV :=
  match P.underlying src, P.underlying dst with
  | some (.slice e), some .string => match P.underlying e with
    | some (.int .u8) => match x with
      | .nilsl => some (.val (.string ByteArray.empty))
      | .sl 1 es => (bytesOf es).map fun bs => .val (.string ⟨bs.toArray⟩)
      | .slf 1 es => (bytesOf es).map fun bs => .val (.string ⟨bs.toArray⟩)
      | .slo _ 1 es _ => (bytesOf es).map fun bs => .val (.string ⟨bs.toArray⟩)
      | .osl o off len 1 => match σ[o]? with
        | some (.cells cs) => if off + len ≤ cs.length then (bytesOf ((cs.drop off).take len)).map fun bs => .val (.string ⟨bs.toArray⟩) else none
        | _ => none
      | _ => none
    | _ => none
  | _, _ => none
theorem bytes_cells {C : Ctx} {bs : List UInt8} {xs : List Value} (h : RelL C (bs.map byteAV) xs) : xs = bs.map fun b => .int .u8 b.toNat := by
  induction bs generalizing xs with
  | nil => cases xs with
    | nil => rfl
    | cons => exact h.elim
  | cons b bs ih => cases xs with
    | nil => exact h.elim
    | cons x xs =>
      have h1 : x = .int .u8 b.toNat := h.1
      rw [h1, ih h.2]
      rfl
theorem bytes_row {C : Ctx} {bs : List UInt8} {b off : Nat} (h : RelRow C (bs.map byteAV) b off 1) : ∀ j (hj : j < bs.length), C.w.cell? ((⟨b, off, none⟩ : Addr).add j) = some (.int .u8 (bs[j].toNat : Int)) := by
  intro j hj
  obtain ⟨g1, g2⟩ := relRow_get (j := j) (e := byteAV bs[j]) h (by simp [hj])
  simp only [byteAV, AV.cells, RelAt, Nat.mul_one] at g2
  obtain ⟨⟨v, hc, _, hv⟩, _⟩ := g2
  have hv : v = .int .u8 bs[j].toNat := hv
  rw [add_lit, hc, hv]
theorem aStrOf_ok {C : Ctx} (hS : RelS C) {src dst : TypeId} {p v : AV} {x : Value} (hp : RelV C p x) (h : aStrOf P C.σ src dst p = some v) : ∃ z, (convert src dst x).run P C.w = .ok z C.w ∧ RelV C v z := by
  unfold aStrOf at h
  split at h <;> try (simp at h; done)
  rename_i e hs hd
  split at h <;> try (simp at h; done)
  rename_i he
  split at h <;> try (simp at h; done)
  · cases h
    cases hp
    exact ⟨_, run_convert_bytes_nil C.w src e hs he 0 0 dst hd, rfl⟩
  · rename_i es
    obtain ⟨bs, hb, rfl⟩ := Option.map_eq_some_iff.1 h
    have hes := bytesOf_eq hb
    subst hes
    obtain ⟨b, off, c, s, rfl, hs', _, _, hr⟩ := hp
    rw [List.length_map]
    refine ⟨_, run_convert_bytes_back C.w src dst e _ c bs hs he hd (fun j hj => ?_), rfl⟩
    rcases hs' with hn | rfl
    · rw [List.map_eq_nil_iff] at hn
      subst hn
      simp at hj
    · exact bytes_row hr j hj
  · rename_i es
    obtain ⟨bs, hb, rfl⟩ := Option.map_eq_some_iff.1 h
    have hes := bytesOf_eq hb
    subst hes
    obtain ⟨b, rfl, _, _, _, hr⟩ := hp
    rw [List.length_map]
    exact ⟨_, run_convert_bytes_back C.w src dst e _ _ bs hs he hd (fun j hj => bytes_row hr j hj), rfl⟩
  · rename_i nl es k
    obtain ⟨bs, hb, rfl⟩ := Option.map_eq_some_iff.1 h
    have hes := bytesOf_eq hb
    subst hes
    obtain ⟨_, _, _, _, h4, h5⟩ := hp
    by_cases he0 : bs.map byteAV = []
    · obtain ⟨A, rfl, _⟩ := h4 he0
      rw [List.map_eq_nil_iff] at he0
      subst he0
      cases A with
      | none => exact ⟨_, run_convert_bytes_nil C.w src e hs he 0 0 dst hd, rfl⟩
      | some a => exact ⟨_, run_convert_bytes_back C.w src dst e a 0 [] hs he hd (fun j hj => by simp at hj), rfl⟩
    · obtain ⟨b, off, c, rfl, _, _, _, hr⟩ := h5 he0
      rw [List.length_map]
      exact ⟨_, run_convert_bytes_back C.w src dst e _ c bs hs he hd (bytes_row hr), rfl⟩
  · rename_i o off len
    split at h <;> try (simp at h; done)
    rename_i cs hcs
    split at h <;> try (simp at h; done)
    rename_i hfit
    obtain ⟨bs, hb, rfl⟩ := Option.map_eq_some_iff.1 h
    have hes := bytesOf_eq hb
    obtain ⟨_, c, arr, T, fr, rfl, _⟩ := hp
    obtain ⟨xs, l1, l2, l3⟩ := obj_cells hS hcs off
    have l4 := relL_take len l1
    rw [hes] at l4
    have hx := bytes_cells l4
    have hlen : bs.length = len := by
      have := congrArg List.length hes
      simp at this
      omega
    subst hlen
    refine ⟨_, run_convert_bytes_back C.w src dst e _ c bs hs he hd (fun j hj => ?_), rfl⟩
    refine l2 j _ ?_
    have : (xs.take bs.length)[j]? = some (.int .u8 bs[j].toNat) := by rw [hx]; simp [hj]
    rw [List.getElem?_take, if_pos hj] at this
    exact this
/-- A conversion, whichever. -/
def tBytes (P : Program) (T : TypeId) : Bool := match P.underlying T with
  | some (.slice e) => match P.underlying e with
    | some (.int .u8) => true
    | _ => false
  | _ => false
def bytesTo (P : Program) (src dst : TypeId) : Bool := tyStr P src && tBytes P dst
/-- A string's bytes, as a row that nobody writes. -/
def aToB : AV → Option AV
  | .val (.string s) => if s.size ≤ 4611686018427387904 then some (.sl 1 (s.data.toList.map byteAV)) else none
  | _ => none
theorem aToB_ok {C : Ctx} (hS : RelS C) {src dst : TypeId} {p v : AV} {x : Value} (hb : bytesTo P src dst = true) (hp : RelV C p x) (h : aToB p = some v) :
    ∃ (z : Value) (D : Ctx), (convert src dst x).run P C.w = .ok z D.w ∧ D.σ = C.σ ∧ Ext C D ∧ RelS D ∧ RelV D v z := by
  unfold aToB at h
  split at h <;> try (simp at h; done)
  rename_i s
  split at h <;> try (simp at h; done)
  rename_i hsz
  cases h
  cases hp
  simp only [bytesTo, Bool.and_eq_true] at hb
  obtain ⟨h1, h2⟩ := hb
  have hs : P.underlying src = some .string := by
    unfold tyStr at h1
    split at h1 <;> simp_all
  unfold tBytes at h2
  split at h2 <;> try (simp at h2; done)
  rename_i e hd
  split at h2 <;> try (simp at h2; done)
  rename_i he
  have hr := run_bytes_of_string C.w src dst e s hs hd he
  have hge := grownCap_ge C.w s.size 0 e
  have hle := grownCap_le_maxLen C.w s.size 0 e (by simp only [maxLen]; omega)
  generalize hc : grownCap C.w s.size 0 e = c at hr hge hle
  generalize ho : (Obj.cells (bytesRow s c) e ((bytesRow s c).size, (bytesRow s c).size + 1)) = ob at hr
  have hE := (drew_ext C).trans (lay_ext (drew_rel hS) ob)
  have hR := lay_rel (drew_rel hS) ob
  refine ⟨_, C.drew.lay ob, hr, rfl, hE, hR, C.w.heap.size, 0, c, none, ?_, .inr rfl, ?_, hle, ?_⟩
  · rw [List.length_map, Array.length_toList]
    rfl
  · rw [List.length_map, Array.length_toList]
    exact hge
  · refine relRow_of (fun x hx => ?_) ?_
    · obtain ⟨b, _, rfl⟩ := List.mem_map.1 hx
      rfl
    · have hfl : (s.data.toList.map byteAV).flatMap AV.cells = s.data.toList.map byteAV := by
        generalize s.data.toList = l
        induction l with
        | nil => rfl
        | cons a l ih => simp only [List.map_cons, List.flatMap_cons, ih]; rfl
      rw [hfl]
      refine relAt_of (xs := s.data.toList.map fun b => Value.int .u8 b.toNat) ?_ (fun j u hj => ?_) (fun j _ => (lay_fix (drew_rel hS) ob).cell _)
      · generalize s.data.toList = l
        induction l with
        | nil => trivial
        | cons a l ih => exact ⟨rfl, ih⟩
      · have hlt := (List.getElem?_eq_some_iff.1 hj).1
        simp only [List.length_map, Array.length_toList] at hlt
        have hob : (C.drew.lay ob).w.heap[C.w.heap.size]? = some ob := heap_alloc_at C.drew.w ob
        have hu : (bytesRow s c)[j]? = some u := by
          unfold bytesRow
          rw [Array.getElem?_append_left (by simpa using hlt)]
          rw [← hj]
          simp [hlt]
        refine ⟨?_, ?_⟩
        · rw [Nat.zero_add]
          simp only [World.cell?, hob]
          rw [← ho]
          simpa using hu
        · obtain ⟨b, _, rfl⟩ := List.mem_map.1 (List.mem_of_getElem? hj)
          rfl
def aConv (P : Program) (σ : List AO) (src dst : TypeId) (x : AV) : Option (AV × List AO) :=
  match aConvert P src dst x with
  | some v => some (v, σ)
  | none => if bytesTo P src dst = true then (aToB x).map (·, σ) else (aStrOf P σ src dst x).map (·, σ)
theorem aConv_ok {C : Ctx} (hS : RelS C) {src dst : TypeId} {p v : AV} {x : Value} {σ' : List AO} (hp : RelV C p x) (h : aConv P C.σ src dst p = some (v, σ')) :
    ∃ (z : Value) (D : Ctx), (convert src dst x).run P C.w = .ok z D.w ∧ D.σ = σ' ∧ Ext C D ∧ RelS D ∧ RelV D v z := by
  unfold aConv at h
  split at h
  · rename_i u hu
    cases h
    obtain ⟨z, k1, k2⟩ := aConvert_ok hp hu
    exact ⟨z, C, k1, rfl, Ext.refl _, hS, k2⟩
  · split at h
    · rename_i hb
      obtain ⟨u, hu, e⟩ := Option.map_eq_some_iff.1 h
      cases e
      exact aToB_ok hS hb hp hu
    · obtain ⟨u, hu, e⟩ := Option.map_eq_some_iff.1 h
      cases e
      obtain ⟨z, k1, k2⟩ := aStrOf_ok hS hp hu
      exact ⟨z, C, k1, rfl, Ext.refl _, hS, k2⟩
end Go.Proofs.Ev

