import Derived.Test.YtnfimclkiccdhaaDoorPtEvOps3
import Derived.MapKept
import Derived.WideKeyRuns
/-! Keys of maps that are structs of ints. -/
namespace Go.Proofs.Ev
set_option linter.unusedSimpArgs false
set_option linter.unusedVariables false
open Go
variable {P : Program}
def intFs (P : Program) : List Field → Nat → Bool
  | [], _ => true
  | f :: fs, i => (f.name != "_" && f.offset == i && (match P.underlying f.type with | some (.int .i64) => true | _ => false)) && intFs P fs (i + 1)
/-- Is a type a struct of n ints? -/
def aggK (P : Program) (kt : TypeId) (n : Nat) : Bool := match P.underlying kt with
  | some (.struct fs) => fs.size == n && intFs P fs.toList 0 && !P.stoodInHeld kt
  | _ => false
def intV (n : Int) : Value := .int .i64 n
def aInts : List AV → Option (List Int)
  | [] => some []
  | .val (.int .i64 n) :: l => (aInts l).map (n :: ·)
  | _ => none
def vInts : List Value → Option (List Int)
  | [] => some []
  | .int .i64 n :: l => (vInts l).map (n :: ·)
  | _ => none
def vKey : Value → Option (List Int)
  | .agg cs => vInts cs.toList
  | _ => none
def kV (q : List Int) : Value := .agg (q.map intV).toArray
theorem vInts_eq : ∀ {l : List Value} {q : List Int}, vInts l = some q → l = q.map intV
  | [], q, h => by cases h; rfl
  | v :: l, q, h => by
    unfold vInts at h
    split at h
    · rename_i h0; cases h0
    · rename_i h0
      cases h0
      obtain ⟨q', h1, rfl⟩ := Option.map_eq_some_iff.1 h
      rw [vInts_eq h1]
      rfl
    · cases h
theorem vKey_eq {v : Value} {q : List Int} (h : vKey v = some q) : v = kV q := by
  cases v <;> simp [vKey] at h
  rename_i cs
  have := vInts_eq h
  rw [kV, ← this]
theorem aInts_rel {C : Ctx} : ∀ {l : List AV} {q : List Int} {xs : List Value}, aInts l = some q → RelL C l xs → xs = q.map intV
  | [], q, xs, h, hr => by
    cases h
    cases xs with
    | nil => rfl
    | cons => exact hr.elim
  | a :: l, q, xs, h, hr => by
    unfold aInts at h
    split at h
    · rename_i h0; cases h0
    · rename_i h0
      cases h0
      obtain ⟨q', h1, rfl⟩ := Option.map_eq_some_iff.1 h
      cases xs with
      | nil => exact hr.elim
      | cons x xs =>
        obtain ⟨hx, hr⟩ := hr
        rw [aInts_rel h1 hr]
        cases hx
        rfl
    · cases h
theorem agg_rel {C : Ctx} {l : List AV} {q : List Int} {y : Value} (h : aInts l = some q) (hr : RelV C (.agg l) y) : y = kV q := by
  obtain ⟨cs, rfl, h1⟩ := hr
  have := aInts_rel h h1
  rw [kV, ← this]
theorem int_plain {t : TypeId} (h : (match P.underlying t with | some (.int .i64) => true | _ => false) = true) : P.underlying t = some (.int .i64) := by
  split at h <;> first | assumption | cases h
theorem eq_fields (w : World) (q r : List Int) (h : q.length = r.length) (e : Nat) : ∀ (fs : List Field) (i : Nat), intFs P fs i = true → i + fs.length = q.length →
    (Op.eqFields (e + 1) (q.map intV).toArray (r.map intV).toArray fs).run P w = .ok (decide (q.drop i = r.drop i)) w
  | [], i, _, hl => by
    have h1 : q.drop i = [] := List.drop_eq_nil_of_le (by simp at hl; omega)
    have h2 : r.drop i = [] := List.drop_eq_nil_of_le (by simp at hl; omega)
    simp [Op.eqFields, h1, h2]
  | f :: fs, i, hf, hl => by
    simp only [intFs, Bool.and_eq_true, bne_iff_ne, ne_eq, beq_iff_eq] at hf
    obtain ⟨⟨⟨hn, ho⟩, ht⟩, hf⟩ := hf
    have ht := int_plain ht
    have hpl : P.plainKey f.type = true := by simp [Program.plainKey, ht]
    simp only [List.length_cons] at hl
    have hq : i < q.length := by omega
    have hr : i < r.length := by omega
    have p1 := run_part_plain (P := P) w hpl (xs := (q.map intV).toArray) (off := i) (v := intV q[i]) (by simp [List.getElem?_eq_getElem hq])
    have p2 := run_part_plain (P := P) w hpl (xs := (r.map intV).toArray) (off := i) (v := intV r[i]) (by simp [List.getElem?_eq_getElem hr])
    have p3 : (Op.equalIn (e + 1) f.type (intV q[i]) (intV r[i])).run P w = .ok (q[i] == r[i]) w := run_equalIn_int w e _ _ _ _ _ ht
    have ih := eq_fields w q r h e fs (i + 1) hf (by omega)
    rw [Op.eqFields, if_pos hn, ho]
    simp only [Sem.run_bind, p1, p2, p3, Result.andThen_ok]
    have hd : decide (q.drop i = r.drop i) = (q[i] == r[i] && decide (q.drop (i + 1) = r.drop (i + 1))) := by
      rw [Bool.eq_iff_iff, decide_eq_true_iff, List.drop_eq_getElem_cons hq, List.drop_eq_getElem_cons hr, List.cons.injEq, Bool.and_eq_true, beq_iff_eq, decide_eq_true_iff]
    rw [hd]
    cases hb : q[i] == r[i]
    · rfl
    · simpa [Bool.true_and] using ih
theorem aggK_iff {kt : TypeId} {n : Nat} (h : aggK P kt n = true) : ∃ fs : Array Field, P.underlying kt = some (.struct fs) ∧ fs.size = n ∧ intFs P fs.toList 0 = true ∧ P.stoodInHeld kt = false := by
  unfold aggK at h
  split at h
  · rename_i fs hu
    simp only [Bool.and_eq_true, beq_iff_eq, Bool.not_eq_true'] at h
    exact ⟨fs, hu, h.1.1, h.1.2, h.2⟩
  · cases h
theorem eq_key (w : World) {kt : TypeId} {q r : List Int} (hk : aggK P kt q.length = true) (h : r.length = q.length) : (Op.equal kt (kV q) (kV r)).run P w = .ok (decide (q = r)) w := by
  obtain ⟨fs, hu, hs, hf, hst⟩ := aggK_iff hk
  have hfo : P.fieldsOf kt = fs := by simp [Program.fieldsOf, hu]
  unfold Op.equal Op.maxDepth kV
  rw [run_equalIn_struct w 9999 kt _ _ (by rw [hfo]; exact hu) hst, hfo]
  have := eq_fields (P := P) w q r h.symm 9998 fs.toList 0 hf (by simp [hs])
  simpa using this
theorem check_fields (w : World) (em : Bool) (m : Nat) (q : List Int) : ∀ (fs : List Field) (i : Nat), intFs P fs i = true → i + fs.length = q.length →
    ((forIn fs PUnit.unit fun (f : Field) (_ : PUnit) => (do
      if f.name ≠ "_" then Instr.checkKey em (m + 1) f.type (← part f.type (q.map intV).toArray f.offset)
      pure (ForInStep.yield PUnit.unit) : Sem (ForInStep PUnit))) : Sem PUnit).run P w = .ok PUnit.unit w
  | [], i, _, _ => by simp
  | f :: fs, i, hf, hl => by
    simp only [intFs, Bool.and_eq_true, bne_iff_ne, ne_eq, beq_iff_eq] at hf
    obtain ⟨⟨⟨hn, ho⟩, ht⟩, hf⟩ := hf
    have ht := int_plain ht
    have hpl : P.plainKey f.type = true := by simp [Program.plainKey, ht]
    simp only [List.length_cons] at hl
    have hq : i < q.length := by omega
    have p1 := run_part_plain (P := P) w hpl (xs := (q.map intV).toArray) (off := i) (v := intV q[i]) (by simp [List.getElem?_eq_getElem hq])
    have p2 : (Instr.checkKey em (m + 1) f.type (intV q[i])).run P w = .ok () w := by simp [Instr.checkKey, run_underlying ht]
    have ih := check_fields w em m q fs (i + 1) hf (by omega)
    rw [List.forIn_cons, ho]
    simp only [hn, ne_eq, not_false_eq_true, if_true, Sem.run_bind, p1, p2, Result.andThen_ok, Sem.run_pure]
    simpa [hn] using ih
theorem check_key (w : World) (em : Bool) {kt : TypeId} {q : List Int} (hk : aggK P kt q.length = true) : (Instr.checkKey em 10000 kt (kV q)).run P w = .ok () w := by
  obtain ⟨fs, hu, hs, hf, hst⟩ := aggK_iff hk
  have := check_fields (P := P) w em 9998 q fs.toList 0 hf (by simp [hs])
  unfold Instr.checkKey kV
  simp only [Sem.run_bind, run_underlying hu, Result.andThen_ok]
  rw [← Array.forIn_toList]
  exact (congrArg (fun x => Result.andThen x _) this).trans (by rfl)
theorem bits_ints : ∀ (q : List Int) (n : Nat), ((q.map intV).zip (q.map intV)).all (fun (x, y) => Instr.sameBits n x y) = true
  | [], _ => rfl
  | a :: q, n => by
    simp only [List.map_cons, List.zip_cons_cons, List.all_cons, bits_ints q n, Bool.and_true]
    cases n <;> simp [Instr.sameBits, intV]
theorem stays_key (w : World) (q : List Int) : (Instr.keyThatStays (kV q) (kV q)).run P w = .ok (kV q) w := by
  have : Instr.sameBits 10000 (kV q) (kV q) = true := by
    unfold Instr.sameBits kV
    simpa using bits_ints q 9999
  simp [Instr.keyThatStays, this]
/-- The first key that is the same. -/
def aFindA (q : List Int) : List Value → Nat → Option (Option Nat)
  | [], _ => some none
  | v :: vs, i => match vKey v with
    | some r => if r.length = q.length then (if q = r then some (some i) else aFindA q vs (i + 1)) else none
    | none => none
theorem findAsk_eq (w : World) {kt : TypeId} {q : List Int} (hk : aggK P kt q.length = true) : ∀ (es : List MapEntry) (i : Nat) {r : Option Nat}, aFindA q (es.map (·.key)) i = some r →
    match r with
    | none => (Instr.findAsking kt (kV q) es i).run P w = .ok none w
    | some j => i ≤ j ∧ ∃ e, es[j - i]? = some e ∧ e.key = kV q ∧ (Instr.findAsking kt (kV q) es i).run P w = .ok (some (j, e.val)) w
  | [], i, r, h => by
    simp only [List.map_nil, aFindA, Option.some.injEq] at h
    subst h
    simp [Instr.findAsking]
  | e :: es, i, r, h => by
    simp only [List.map_cons, aFindA] at h
    split at h <;> try (simp at h; done)
    rename_i p hp
    split at h <;> try (simp at h; done)
    rename_i hl
    have hke := vKey_eq hp
    have he := eq_key (P := P) w hk hl
    split at h
    · rename_i hqp
      cases h
      refine ⟨Nat.le_refl _, e, by simp, by rw [hke, hqp], ?_⟩
      simp only [Instr.findAsking, Sem.run_bind, hke, he, Result.andThen_ok]
      simp [hqp]
    · rename_i hqp
      have ih := findAsk_eq w hk es (i + 1) h
      have hs : (Instr.findAsking kt (kV q) (e :: es) i).run P w = (Instr.findAsking kt (kV q) es (i + 1)).run P w := by
        rw [Instr.findAsking]
        simp only [Sem.run_bind, hke, he, Result.andThen_ok]
        simp [hqp]
      rw [hs]
      cases r with
      | none => exact ih
      | some j =>
        obtain ⟨h1, e', h2, h3, h4⟩ := ih
        refine ⟨by omega, e', ?_, h3, h4⟩
        rw [show j - i = (j - (i + 1)) + 1 by omega]
        simpa using h2
theorem findKey_agg (w : World) {kt : TypeId} {q : List Int} (hk : aggK P kt q.length = true) (es : List MapEntry) {r : Option Nat} (h : aFindA q (es.map (·.key)) 0 = some r) :
    match r with
    | none => (Instr.findKey kt (kV q) es).run P w = .ok none w
    | some j => ∃ e, es[j]? = some e ∧ e.key = kV q ∧ (Instr.findKey kt (kV q) es).run P w = .ok (some (j, e.val)) w := by
  obtain ⟨fs, hu, _⟩ := aggK_iff hk
  have hwide : (match P.underlying kt with | some (.array _ _) | some (.struct _) => true | _ => false) = true := by rw [hu]
  have := findAsk_eq (P := P) w hk es 0 h
  cases r with
  | none => simpa [run_findKey_eq w hwide] using this
  | some j =>
    obtain ⟨_, e, h1, h2, h3⟩ := this
    exact ⟨e, by simpa using h1, h2, by rw [run_findKey_eq w hwide]; exact h3⟩
end Go.Proofs.Ev

