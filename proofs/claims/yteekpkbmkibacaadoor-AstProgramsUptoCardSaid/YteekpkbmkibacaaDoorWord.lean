import Derived.Test.YteekpkbmkibacaaDoorAstN
import Derived.Test.YteekpkbmkibacaaDoorTie
import Derived.Test.YteekpkbmkibacaaDoorCards
import Derived.Test.YteekpkbmkibacaaDoorEvBulk
import Derived.Lib.SmallJoins
import Derived.Deep.DeepWitnessRowRef
import Derived.WideKeyElems2
import Derived.Maps.Range
/-! What the rows of ast's laws share: the table of words, a world that holds it. -/
namespace Go.Proofs.YteekpkbmkibacaaDoor
set_option linter.unusedSimpArgs false
set_option linter.unusedVariables false
open Go Go.ChangeShapes Go.WideShapes Go.ChangeAt Go.RowKit Go.Proofs.Ev Go.Proofs.Tryd
namespace Wd
theorem own : ownKnob Tryd.prog.godebug = none := by kernel_rfl
theorem laidOut : laidOutB Tryd.prog = true := by kernel_rfl
theorem gWords : Tryd.prog.globalNamed "shuttlecock/ast.words" = some 0 := by kernel_rfl
theorem gWordsType : (Tryd.prog.globals[0]?).map (·.type) = some 145 := by kernel_rfl
def GW (ks : List ByteArray) : List (Nat × List AV) := [(0, [.mapf (ks.map Value.string) (List.replicate ks.length (A.bool true))])]
theorem findS_mem_iff : ∀ (l : List ByteArray) (s : ByteArray), (findS l s).isSome = true ↔ s ∈ l
  | [], s => by simp [findS]
  | a :: l, s => by
    have := findS_mem_iff l s
    simp only [findS, List.mem_cons]
    split
    · rename_i h
      simp [h]
    · rename_i h
      simp [h, this]
theorem bytes_list {s t : ByteArray} (h : s.data.toList = t.data.toList) : s = t := by
  apply Go.WideShapes.bytes_inj
  exact h
/-- The entries of the list that the text lays. -/
def laidL : List (Lit × DataW Unit) := A.words.map fun s => (.string s.data.toList, .lit (.bool true))
theorem laidL_eq : (Rows.laid_shuttlecock_ast_words : DataW Unit) = .map laidL := by kernel_rfl
set_option maxRecDepth 100000 in
theorem keyOf_str {v : Value} {key : Lit} (h : keyOf Tryd.prog 9 v = some key) : ∃ s : ByteArray, v = .string s ∧ key = .string s.data.toList := by
  unfold keyOf at h
  rw [Tryd.underlying9] at h
  simp only [mapKey, Tryd.underlying9] at h
  cases v with
  | string s =>
    simp only at h
    split at h
    · exact ⟨s, rfl, (Option.some.inj h).symm⟩
    · cases h
  | _ => cases h
theorem mapM_pairs {α β : Type} {f : α → Option β} : ∀ {l : List α} {r : List β}, l.mapM f = some r → Pairs (fun a b => f a = some b) l r
  | [], r, h => by
    simp at h
    subst h
    exact .nil
  | a :: l, r, h => by
    simp only [List.mapM_cons, Option.bind_eq_bind, Option.bind_eq_some_iff] at h
    obtain ⟨b, h1, r', h2, h3⟩ := h
    simp at h3
    subst h3
    exact .cons h1 (mapM_pairs h2)
set_option maxRecDepth 100000 in
theorem entries_of {W : World} {base : Nat} {sp : Nat → Bool} {held : Bool} {n : Nat} : ∀ {es : List MapEntry} {ents : List ((Lit × DataW Unit) × List MemPlace)},
    Pairs (fun (x : MapEntry) y => ((keyOf Tryd.prog 9 x.key).bind fun key => if x.val.formed Tryd.prog 4 then (DataW.trod (fun _ => ()) Tryd.prog W base sp held n 4 x.val.cells.toList).map fun y => ((key, y.1), y.2) else none) = some y) es ents →
    (∀ p ∈ ents.map (·.1), p.2 = .lit (.bool true)) → ∃ ks : List ByteArray, es.map (·.key) = ks.map Value.string ∧ es.map (·.val) = List.replicate ks.length (.bool true) ∧ ents.map (·.1.1) = ks.map fun s => .string s.data.toList
  | [], _, .nil, _ => ⟨[], rfl, rfl, rfl⟩
  | x :: es, y :: ents, .cons h hs, hv => by
    obtain ⟨ks, k1, k2, k3⟩ := entries_of hs fun p hp => hv p (by simp only [List.map_cons]; exact List.mem_cons_of_mem _ hp)
    obtain ⟨key, h1, h2⟩ := Option.bind_eq_some_iff.1 h
    split at h2 <;> try (simp at h2; done)
    rename_i hform
    obtain ⟨z, h3, h4⟩ := Option.map_eq_some_iff.1 h2
    obtain ⟨s, e1, e2⟩ := keyOf_str h1
    have hb := hv y.1 (by simp)
    rw [← h4] at hb
    simp only at hb
    obtain ⟨b, hc, hz⟩ := DataW.trod_bool Tryd.underlying4 h3
    rw [hz] at hb
    simp only [DataW.lit.injEq, Lit.bool.injEq] at hb
    rw [hb] at hc
    have hval : x.val = .bool true := by
      unfold Value.formed at hform
      rw [Tryd.underlying4] at hform
      cases hx : x.val with
      | bool c =>
        rw [hx] at hc
        simpa [Value.cells] using hc
      | agg cs =>
        rw [hx] at hform
        cases hform
      | _ =>
        rw [hx] at hc
        simp [Value.cells] at hc
    refine ⟨s :: ks, by rw [List.map_cons, List.map_cons, k1, e1], by rw [List.map_cons, k2, hval]; rfl, ?_⟩
    rw [List.map_cons, List.map_cons, k3, ← h4, e2]
set_option maxRecDepth 100000 in
theorem wwords (W : World) (h : laidMetH Tryd.prog Rows.astExprsRow.laid W) : ∃ ks : List ByteArray, RelG (C0 W) (GW ks) ∧ A.Words (GW ks) := by
  have h1 : laidMet Tryd.prog Rows.astExprsRow.laid W := h
  obtain ⟨ps, ⟨g', t', cs, fuel, p, q, hg', ht', hvar, hd, _, _⟩, _⟩ := h1
  obtain rfl := Option.some.inj (gWords.symm.trans hg')
  obtain rfl := Option.some.inj (gWordsType.symm.trans ht')
  rw [laidL_eq] at hd
  cases fuel with
  | zero => simp [DataW.trod] at hd
  | succ n =>
    have hcs : ∃ b, cs.toList = [.map (some b)] := by
      unfold DataW.trod at hd
      rw [Tryd.underlying145] at hd
      split at hd <;> first | (exact ⟨_, rfl⟩) | (rename_i hc; exact ⟨_, hc⟩) | (simp at hd; done) | (simp_all; done)
    obtain ⟨b, hcb⟩ := hcs
    rw [hcb] at hd
    unfold DataW.trod at hd
    rw [Tryd.underlying145] at hd
    simp only at hd
    split at hd <;> try (simp at hd; done)
    rename_i es clock hb
    split at hd <;> try (simp at hd; done)
    obtain ⟨ents, he1, he2⟩ := Option.bind_eq_some_iff.1 hd
    split at he2 <;> try (simp at he2; done)
    have hL : (ents.map (·.1)).foldr DataW.insert [] = laidL := by
      simp only [Option.some.injEq, Prod.mk.injEq, DataW.map.injEq] at he2
      exact he2.1
    have hperm : laidL.Perm (ents.map (·.1)) := by
      rw [← hL]
      exact sorted_perm _
    obtain ⟨ks, k1, k2, k3⟩ := entries_of (mapM_pairs he1) fun p hp => by
      have := hperm.mem_iff.2 hp
      simp only [laidL, List.mem_map] at this
      obtain ⟨s, _, rfl⟩ := this
      rfl
    have hks : ∀ s, s ∈ ks ↔ s ∈ A.words := by
      intro s
      have e1 : (A.words.map fun s => Lit.string s.data.toList).Perm (ks.map fun s => Lit.string s.data.toList) := by
        have h5 : laidL.map (·.1) = A.words.map (fun s => Lit.string s.data.toList) := by
          unfold laidL
          rw [List.map_map]
          rfl
        have h6 : (ents.map (·.1)).map (·.1) = ents.map (·.1.1) := by
          rw [List.map_map]
          rfl
        have := hperm.map (·.1)
        rw [h5, h6, k3] at this
        exact this
      have e2 := e1.mem_iff (a := Lit.string s.data.toList)
      simp only [List.mem_map, Lit.string.injEq] at e2
      constructor
      · intro hs
        obtain ⟨t, h1, h2⟩ := e2.2 ⟨s, hs, rfl⟩
        rwa [bytes_list h2] at h1
      · intro hs
        obtain ⟨t, h1, h2⟩ := e2.1 ⟨s, hs, rfl⟩
        rwa [bytes_list h2] at h1
    refine ⟨ks, ?_, ks, rfl, fun s => ?_⟩
    · intro x hx
      simp only [GW, List.mem_singleton] at hx
      subst hx
      have hsz : 0 < W.heap.size := by
        unfold World.var? at hvar
        rw [gWords] at hvar
        simp only [Option.bind_some] at hvar
        split at hvar
        · rename_i hh
          exact (Array.getElem?_eq_some_iff.1 hh).1
        · cases hvar
      refine relAt_cells (xs := cs.toList) (fun off => fix0 off hsz) ?_ (fun v hv => by rw [hcb] at hv; simp at hv; subst hv; rfl) (fun j v hj => by
        have := World.var?_cell gWords hvar j
        show W.cell? ⟨0, 0 + j, none⟩ = some v
        rw [Nat.zero_add, ← hj]
        simpa using this)
      rw [hcb]
      refine ⟨⟨b, es, clock, rfl, fixB0 (Array.getElem?_eq_some_iff.1 hb).1, hb, k1, ?_⟩, trivial⟩
      rw [k2]
      clear k1 k2 k3 hks
      induction ks with
      | nil => trivial
      | cons a l ih => exact ⟨rfl, ih⟩
    · rw [Bool.eq_iff_iff, findS_mem_iff]
      unfold A.wordM
      rw [findS_mem_iff]
      exact hks s
/-- The world of the witness: the settled one, the words laid. -/
noncomputable def laidObj : Obj := .map ((A.words.toArray.mapIdx fun i s => { key := .string s, val := .bool true, born := i })) 20
noncomputable def laidWorld (os : Os) : World :=
  { World.holding Tryd.prog os ⟨#[laidObj], #[], []⟩ with heap := (World.holding Tryd.prog os ⟨#[laidObj], #[], []⟩).heap.modify 0 fun
      | .cells _ t frozen => .cells #[.map (some (World.settled Tryd.prog os).heap.size)] t frozen
      | o => o }
theorem bulkAll {H : Type} : ∀ ds : List (DataW H), Rows.uptoBulkAll ds = (ds.map Rows.uptoBulk).sum
  | [] => by simp [Rows.uptoBulkAll]
  | d :: ds => by simp only [Rows.uptoBulkAll, List.map_cons, List.sum_cons, bulkAll ds]
theorem bulk {H : Type} : Bulk (Rows.uptoBulk (H := H)) := {
  slice es sp := by simp only [Rows.uptoBulk, bulkAll]; omega
  pos d := by
    cases d with
    | lit l => cases l <;> simp only [Rows.uptoBulk] <;> omega
    | _ => simp only [Rows.uptoBulk]; omega
  agg ps := by simp only [Rows.uptoBulk, bulkAll]; omega
  str bs := by simp only [Rows.uptoBulk]; omega }
end Wd
end Go.Proofs.YteekpkbmkibacaaDoor
