import Derived.Test.YtnfimclkiccdhaaDoorPtEvBuild
import Derived.MapKept
/-! len, conversions, cuts, function values, min and max, equality of structs, maps. -/
namespace Go.Proofs.Ev
set_option linter.unusedSimpArgs false
set_option linter.unusedVariables false
open Go
variable {P : Program}

def aLen (P : Program) (σ : List AO) (T : TypeId) (x : AV) : Option AV :=
  match P.underlying T with
  | some .string => match x with
    | .val (.string s) => some (.val (.int .i64 s.size))
    | _ => none
  | some (.slice _) => match x with
    | .nilsl => some (.val (.int .i64 0))
    | .sl _ es => some (.val (.int .i64 es.length))
    | .slo _ _ es _ => some (.val (.int .i64 es.length))
    | .osl _ _ len _ => some (.val (.int .i64 len))
    | _ => none
  | some (.map _ _) => match x with
    | .val (.map none) => some (.val (.int .i64 0))
    | .mapo o => match σ[o]? with
      | some (.map ks _) => some (.val (.int .i64 ks.length))
      | _ => none
    | .mapf ks _ => some (.val (.int .i64 ks.length))
    | _ => none
  | _ => none
theorem aLen_ok {C : Ctx} (hS : RelS C) {T ty : TypeId} {p v : AV} {x : Value} (hp : RelV C p x) (h : aLen P C.σ T p = some v) : ∃ z, (Builtin.len_ #[T] ty #[x]).run P C.w = .ok z C.w ∧ RelV C v z := by
  unfold aLen at h
  split at h <;> try (simp at h; done)
  · rename_i hT
    split at h <;> try (simp at h; done)
    cases h
    cases hp
    exact ⟨_, by simp [Builtin.len_, run_underlying hT, goInt], rfl⟩
  · rename_i e hT
    split at h <;> try (simp at h; done)
    · cases h
      cases hp
      exact ⟨_, by simp [Builtin.len_, run_underlying hT, goInt], rfl⟩
    · cases h
      obtain ⟨b, off, c, s, rfl, _⟩ := hp
      exact ⟨_, by simp [Builtin.len_, run_underlying hT, goInt], rfl⟩
    · rename_i nl sz es k
      cases h
      obtain ⟨_, _, _, _, h4, h5⟩ := hp
      by_cases he : es = []
      · obtain ⟨A, rfl, _⟩ := h4 he
        exact ⟨_, by simp [Builtin.len_, run_underlying hT, goInt, he], rfl⟩
      · obtain ⟨b, off, c, rfl, _⟩ := h5 he
        exact ⟨_, by simp [Builtin.len_, run_underlying hT, goInt], rfl⟩
    · cases h
      obtain ⟨_, c, arr, U, fr, rfl, _⟩ := hp
      exact ⟨_, by simp [Builtin.len_, run_underlying hT, goInt], rfl⟩
  · rename_i kt et hT
    split at h <;> try (simp at h; done)
    · cases h
      cases hp
      exact ⟨_, by simp [Builtin.len_, run_underlying hT, goInt], rfl⟩
    · rename_i o
      split at h <;> try (simp at h; done)
      rename_i ks vs ho
      cases h
      obtain ⟨_, rfl⟩ := hp
      obtain ⟨es, clock, h1, h2, h3⟩ := hS.map o ks vs ho
      refine ⟨.int .i64 ks.length, ?_, rfl⟩
      rw [← h2.1]
      simp [Builtin.len_, run_underlying hT, goInt, getObj, Sem.run, h1]
    · cases h
      obtain ⟨b, es, clock, rfl, _, h1, h2, _⟩ := hp
      refine ⟨_, ?_, rfl⟩
      rw [← h2]
      simp [Builtin.len_, run_underlying hT, goInt, getObj, Sem.run, h1]

/-- Conversions between whole numbers, and from and to a string's bytes. -/
def aConvert (P : Program) (src dst : TypeId) (x : AV) : Option AV :=
  match P.underlying src, P.underlying dst, x with
  | some (.int _), some (.int k), .val (.int _ n) => some (.val (.int k (k.wrap n)))
  | some .string, some .string, .val (.string s) => some (.val (.string s))
  | _, _, _ => none
theorem aConvert_ok {C : Ctx} {src dst : TypeId} {p v : AV} {x : Value} (hp : RelV C p x) (h : aConvert P src dst p = some v) : ∃ z, (convert src dst x).run P C.w = .ok z C.w ∧ RelV C v z := by
  unfold aConvert at h
  split at h <;> try (simp at h; done)
  · rename_i h1 h2
    cases h
    cases hp
    exact ⟨_, by simp [convert, run_underlying h1, run_underlying h2, Conv.intToInt], rfl⟩
  · rename_i h1 h2
    cases h
    cases hp
    exact ⟨_, by simp [convert, run_underlying h1, run_underlying h2], rfl⟩

def aSliceBound (n : Nat) (dflt : Nat) : Option AV → Option Nat
  | none => some dflt
  | some (.val (.int _ i)) => if 0 ≤ i ∧ i ≤ n then some i.toNat else none
  | _ => none
theorem aSliceBound_ok {C : Ctx} {n d m : Nat} {q : Option AV} {y : Option Value} (hq : ∀ v, q = some v → ∃ x, y = some x ∧ RelV C v x) (hq' : q = none → y = none) (h : aSliceBound n d q = some m) (code : BoundsCode) :
    m = d ∧ y = none ∨ m ≤ n ∧ ∃ x, y = some x ∧ ∀ w k, n ≤ k → (Instr.sliceBound x k code).run P w = .ok m w := by
  unfold aSliceBound at h
  split at h <;> try (simp at h; done)
  · cases h
    exact .inl ⟨rfl, hq' rfl⟩
  · split at h <;> try (simp at h; done)
    rename_i k i hi
    cases h
    obtain ⟨x, rfl, hx⟩ := hq _ rfl
    cases hx
    refine .inr ⟨by omega, _, rfl, fun w m hm => ?_⟩
    have : i ≤ (m : Int) := by omega
    simp [Instr.sliceBound, asIntOf, hi.1, this]

/-- A cut of a string, or of a row (up to its length). -/
def aSlice (P : Program) (T : TypeId) (x : AV) (low high : Option AV) : Option AV :=
  match P.underlying T with
  | some .string => match x with
    | .val (.string s) => match aSliceBound s.size s.size high with
      | some h => match aSliceBound h 0 low with
        | some l => some (.val (.string (s.extract l h)))
        | none => none
      | none => none
    | _ => none
  | some (.slice e) => match P.info? e with
    | some i => match x with
      | .nilsl => match aSliceBound 0 0 high with
        | some _ => match aSliceBound 0 0 low with
          | some _ => some .nilsl
          | none => none
        | none => none
      | .sl sz es => if sz = i.size then match aSliceBound es.length es.length high with
        | some h => match aSliceBound h 0 low with
          | some l => some (.sl sz ((es.take h).drop l))
          | none => none
        | none => none
        else none
      | .osl o off len sz => if sz = i.size then match aSliceBound len len high with
        | some h => match aSliceBound h 0 low with
          | some l => if l < h then some (.osl o (off + l * sz) (h - l) sz) else some (.sl sz [])
          | none => none
        | none => none
        else none
      | _ => none
    | none => none
  | _ => none

theorem run_sliceBounds {C : Ctx} {n c h l : Nat} {lo hi : Option AV} {ylo yhi : Option Value} (isS : Bool) (hn : n ≤ c)
    (h1 : ∀ v, lo = some v → ∃ x, ylo = some x ∧ RelV C v x) (h1' : lo = none → ylo = none) (h2 : ∀ v, hi = some v → ∃ x, yhi = some x ∧ RelV C v x) (h2' : hi = none → yhi = none)
    (hh : aSliceBound n n hi = some h) (hl : aSliceBound h 0 lo = some l) : h ≤ n ∧ l ≤ h ∧ ∀ w, (Instr.sliceBounds isS n c ylo yhi none).run P w = .ok (l, h, c) w := by
  have k1 := aSliceBound_ok (P := P) h2 h2' hh (if isS then .sliceAcap else .sliceAlen)
  have k2 := aSliceBound_ok (P := P) h1 h1' hl .sliceB
  rcases k1 with ⟨rfl, rfl⟩ | ⟨a1, x, rfl, a2⟩ <;> rcases k2 with ⟨rfl, rfl⟩ | ⟨b1, y, rfl, b2⟩
  · exact ⟨Nat.le_refl _, Nat.zero_le _, fun w => by simp [Instr.sliceBounds]⟩
  · exact ⟨Nat.le_refl _, b1, fun w => by simp [Instr.sliceBounds, b2 w _ (Nat.le_refl _)]⟩
  · exact ⟨a1, Nat.zero_le _, fun w => by simp [Instr.sliceBounds, a2 w c hn]⟩
  · exact ⟨a1, b1, fun w => by simp [Instr.sliceBounds, a2 w c hn, b2 w _ (Nat.le_refl _)]⟩

theorem aSlice_ok {C : Ctx} {T : TypeId} {p v : AV} {x : Value} {lo hi : Option AV} {ylo yhi : Option Value} (hp : RelV C p x)
    (h1 : ∀ v, lo = some v → ∃ x, ylo = some x ∧ RelV C v x) (h1' : lo = none → ylo = none) (h2 : ∀ v, hi = some v → ∃ x, yhi = some x ∧ RelV C v x) (h2' : hi = none → yhi = none)
    (h : aSlice P T p lo hi = some v) : ∃ z, (Instr.sliceAt T x ylo yhi none).run P C.w = .ok z C.w ∧ RelV C v z := by
  unfold aSlice at h
  split at h <;> try (simp at h; done)
  · rename_i hT
    split at h <;> try (simp at h; done)
    rename_i s
    split at h <;> try (simp at h; done)
    rename_i hh ehh
    split at h <;> try (simp at h; done)
    rename_i l el
    cases h
    cases hp
    obtain ⟨_, _, hb⟩ := run_sliceBounds (P := P) false (Nat.le_refl _) h1 h1' h2 h2' ehh el
    refine ⟨.string (s.extract l hh), ?_, rfl⟩
    simp [Instr.sliceAt, Instr.slice, run_underlying hT, hb]
  · rename_i e hT
    split at h <;> try (simp at h; done)
    rename_i i hi'
    split at h <;> try (simp at h; done)
    · split at h <;> try (simp at h; done)
      rename_i hh ehh
      split at h <;> try (simp at h; done)
      rename_i l el
      cases h
      cases hp
      have ehh0 : hh = 0 := by
        rcases aSliceBound_ok (P := P) h2 h2' ehh .sliceB with ⟨h, _⟩ | ⟨h, _⟩ <;> omega
      subst ehh0
      obtain ⟨_, b2, hb⟩ := run_sliceBounds (P := P) true (Nat.le_refl 0) h1 h1' h2 h2' ehh el
      obtain rfl : l = 0 := by omega
      refine ⟨.slice none 0 0, ?_, rfl⟩
      simp [Instr.sliceAt, Instr.slice, run_underlying hT, hb, sizeOf, typeInfo, hi']
    · rename_i sz es
      split at h <;> try (simp at h; done)
      rename_i hsz
      subst hsz
      split at h <;> try (simp at h; done)
      rename_i hh ehh
      split at h <;> try (simp at h; done)
      rename_i l el
      cases h
      obtain ⟨b, off, c, s, rfl, hs, k1, k2, kr⟩ := hp
      obtain ⟨b1, b2, hb⟩ := run_sliceBounds (P := P) true k1 h1 h1' h2 h2' ehh el
      rcases Classical.em (es = []) with he | he
      · subst he
        simp only [List.length_nil] at b1
        obtain rfl : hh = 0 := by omega
        obtain rfl : l = 0 := by omega
        refine ⟨.slice (some ⟨b, off, s⟩) 0 c, ?_, ⟨b, off, c, s, rfl, .inl rfl, by simp, k2, by simp [RelRow]⟩⟩
        have hb' : ∀ (w : World), Sem.run P (Instr.sliceBounds true 0 c ylo yhi none) w = Result.ok (0, 0, c) w := hb
        simp [Instr.sliceAt, Instr.slice, run_underlying hT, hb', sizeOf, typeInfo, hi', Addr.add]
      obtain rfl : s = none := hs.resolve_left he
      refine ⟨.slice (if c = l then some ⟨b, off, none⟩ else some ⟨b, off + l * i.size, none⟩) (hh - l) (c - l), ?_, ?_⟩
      · simp [Instr.sliceAt, Instr.slice, run_underlying hT, hb, sizeOf, typeInfo, hi', add_lit]
      · have hlen : ((es.take hh).drop l).length = hh - l := by simp; omega
        by_cases ecl : c = l
        · have hnil : (es.take hh).drop l = [] := List.eq_nil_of_length_eq_zero (by omega)
          rw [if_pos ecl, hnil]
          exact ⟨b, off, c - l, none, by simp; omega, .inr rfl, by simp, by omega, by simp [RelRow]⟩
        · rw [if_neg ecl]
          exact ⟨b, off + l * i.size, c - l, none, by rw [hlen], .inr rfl, by omega, by omega, relRow_drop l (relRow_take hh kr)⟩
    · rename_i o off len sz
      split at h <;> try (simp at h; done)
      rename_i hsz
      subst hsz
      split at h <;> try (simp at h; done)
      rename_i hh ehh
      split at h <;> try (simp at h; done)
      rename_i l el
      obtain ⟨k0, c, arr, U, fr, rfl, k1, k2, k3, k4⟩ := hp
      obtain ⟨b1, b2, hb⟩ := run_sliceBounds (P := P) true k1 h1 h1' h2 h2' ehh el
      refine ⟨.slice (if c = l then some ⟨C.φ o, off, none⟩ else some ⟨C.φ o, off + l * i.size, none⟩) (hh - l) (c - l), ?_, ?_⟩
      · simp [Instr.sliceAt, Instr.slice, run_underlying hT, hb, sizeOf, typeInfo, hi', add_lit]
      · split at h
        · rename_i hlt
          cases h
          rw [if_neg (by omega)]
          refine ⟨k0, c - l, arr, U, fr, rfl, by omega, by omega, k3, ?_⟩
          rw [Nat.sub_mul]
          have : l * i.size ≤ c * i.size := Nat.mul_le_mul_right _ (by omega)
          omega
        · cases h
          have : hh - l = 0 := by omega
          rw [this]
          split
          · exact ⟨_, _, c - l, none, rfl, .inr rfl, by simp, by omega, by simp [RelRow]⟩
          · exact ⟨_, _, c - l, none, rfl, .inr rfl, by simp, by omega, by simp [RelRow]⟩
end Go.Proofs.Ev

