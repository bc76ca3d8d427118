import Derived.Test.YteekpkbmkibacaaREvDraw4
import Derived.Test.YteekpkbmkibacaaREvDec
/-! Maps whose keys are strings. -/
namespace Go.Proofs.Ev
set_option linter.unusedSimpArgs false
set_option linter.unusedVariables false
open Go
variable {P : Program} {Γ : List (Nat × List AV)}
/-- The place of a text in a list. -/
def findS : List ByteArray → ByteArray → Option Nat
  | [], _ => none
  | t :: l, s => if s = t then some 0 else (findS l s).map (· + 1)
theorem aFindK_str (s : ByteArray) : ∀ (l : List ByteArray) (i : Nat), aFindK .string (.string s) (l.map Value.string) i = some ((findS l s).map (· + i))
  | [], i => rfl
  | t :: l, i => by
    simp only [List.map_cons, aFindK, Instr.sameNow, ba_beq, findS]
    by_cases h : s = t
    · simp [h]
    · simp only [h, decide_false, if_false]
      rw [aFindK_str s l (i + 1)]
      cases findS l s with
      | none => rfl
      | some j =>
        simp only [Option.map_some, Option.some.injEq]
        omega
theorem findS_lt : ∀ {l : List ByteArray} {s : ByteArray} {i : Nat}, findS l s = some i → i < l.length ∧ l[i]? = some s
  | [], _, _, h => by cases h
  | t :: l, s, i, h => by
    simp only [findS] at h
    split at h
    · rename_i e
      cases h
      exact ⟨by simp, by simp [e]⟩
    · obtain ⟨j, hj, rfl⟩ := Option.map_eq_some_iff.1 h
      obtain ⟨h1, h2⟩ := findS_lt hj
      exact ⟨by simp; omega, by simpa using h2⟩
/-- What a lookup of a text comes to. -/
def lkS (z : AV) (vs : List AV) : Option Nat → Option AV
  | some i => (vs[i]?).map fun v => .tup [v, .val (.bool true)]
  | none => some (.tup [z, .val (.bool false)])
theorem lookup_str {T kt et : TypeId} {z : AV} (hT : P.underlying T = some (.map kt et)) (hk : P.underlying kt = some .string) (hz : aZero P et = some z) {σ : Sto} {m : AV} {l : List ByteArray} {vs : List AV} (hp : mapParts σ m = some (l.map Value.string, vs)) (s : ByteArray) :
    aLookup P σ T true m (.val (.string s)) = lkS z vs (findS l s) := by
  simp only [aLookup, hT, hp, hk, plainK, if_true, aFindK_str, hz]
  cases findS l s with
  | none => rfl
  | some i => rfl
theorem mapEntry_new {T kt et : TypeId} {z : AV} (hT : P.underlying T = some (.map kt et)) (hk : P.underlying kt = some .string) (hz : aZero P et = some z) {σ : Sto} {o : Nat} {l : List ByteArray} {vs : List AV} (ho : σ[o]? = some (.map (l.map Value.string) vs)) {s : ByteArray} (hs : findS l s = none) :
    aMapEntry P σ T (.mapo o) (.val (.string s)) = some (.tup [z, .val (.int .i64 l.length)], σ.set o (.map ((l ++ [s]).map Value.string) (vs ++ [z]))) := by
  simp only [aMapEntry, hT, ho, hk, plainK, if_true, aFindK_str, hs, hz, Option.map_none, Option.map_some, List.length_map, List.map_append, List.map_cons, List.map_nil]
theorem mapParts_o {σ : Sto} {o : Nat} {ks : List Value} {vs : List AV} (ho : σ[o]? = some (.map ks vs)) : mapParts σ (.mapo o) = some (ks, vs) := by simp only [mapParts, ho]
theorem entryStore_at {σ : Sto} {o n : Nat} {k : IntKind} {ks : List Value} {vs : List AV} {v : AV} (ho : σ[o]? = some (.map ks vs)) (hn : n < vs.length) : aEntryStore σ (.mapo o) (.val (.int k n)) v = some (σ.set o (.map ks (vs.set n v))) := by
  simp only [aEntryStore, ho]
  rw [if_pos ⟨by omega, by omega⟩]
  rfl
theorem ACalls.nil1 {f : FuncId} {sz : Nat} {a : AV} {rest : List AV} {σ : Sto} {R : AV → Sto → Prop} (h : ACalls P Γ f (a :: .slo true sz [] σ.length :: rest) (σ ++ [.cap 0 sz]) R) (hsz : 0 < sz) : ACalls P Γ f (a :: .nilsl :: rest) σ R := by
  intro C xs h1 h2 h3 h4
  subst h1
  have hx := ghost_ext C (ao := .cap 0 sz) (by simp [AO.lim])
  cases xs with
  | nil => exact h4.elim
  | cons x xs =>
    cases xs with
    | nil => exact h4.2.elim
    | cons x' xs =>
      refine (h (C.ghost (.cap 0 sz)) (x :: x' :: xs) rfl (ghost_rel h2 (by simp [AO.lim])) (RelG.mono hx h3) ⟨RelV.mono hx h4.1, own_nil (n := 0) (by simp [Ctx.ghost]) hsz (RelV.mono hx h4.2.1), RelL.mono hx h4.2.2⟩).mono ?_
      rintro e w' ⟨D, x, v, k1, k2, k3, k4⟩
      exact ⟨D, x, v, k1, k2, hx.trans k3, k4⟩
end Go.Proofs.Ev

