import Derived.Test.YtnfimclkiccdhaaDoorPtEvDec
/-! Arguments' readings, and how much they hold. -/
namespace Go.Proofs.Ev
set_option linter.unusedSimpArgs false
set_option linter.unusedVariables false
open Go
variable {P : Program} {H : Type} {enc : TypeId × Value → H} {W : World} {base : Nat} {spare : Nat → Bool} {held : Bool}
inductive Pairs {α β : Type} (R : α → β → Prop) : List α → List β → Prop
  | nil : Pairs R [] []
  | cons {a : α} {b : β} {l : List α} {m : List β} : R a b → Pairs R l m → Pairs R (a :: l) (b :: m)
theorem dec_sliceB {α : Type} (en : α → AV) (ok : α → DataW H → Prop) {sz : Nat} {fuel : Nat} {t e : TypeId} {cs : List Value} {x : DataW H × List MemPlace} (ht : P.underlying t = some (.slice e)) (hsz : P.cellsOf e = sz) (hpos : 0 < sz)
    (hen : ∀ a, (en a).cells.length = sz) (he : ∀ n, n < fuel → ∀ cs x, DataW.trod enc P W base spare held n e cs = some x → ∃ a, CellsOf W (en a).cells cs ∧ ok a x.1)
    (h : DataW.trod enc P W base spare held fuel t cs = some x) : ∃ (nl : Bool) (l : List α) (ds sp : List (DataW H)), CellsOf W [rowAV sz nl (l.map en)] cs ∧ ((x.1 = .nil ∧ ds = []) ∨ x.1 = .slice ds sp) ∧ l.length ≤ maxLen ∧ Pairs ok l ds := by
  rcases DataW.trod_slice ht h with ⟨rfl, rfl⟩ | ⟨a, len, cap, elems, rest, n, rfl, rfl, rfl, _, hl, hm, hlen, hel, _⟩
  · exact ⟨true, [], [], [], ⟨⟨rfl, trivial⟩, (fun v hv => by simp at hv; subst hv; rfl)⟩, .inl ⟨rfl, rfl⟩, Nat.zero_le _, .nil⟩
  · rw [hsz] at hel
    have hone : ∀ i, i < len → ∃ (q : α) (xs : List Value) (y : DataW H × List MemPlace), elems[i]? = some y ∧ CellsOf W (en q).cells xs ∧ ok q y.1 ∧ xs.length = sz ∧ ∀ j v, xs[j]? = some v → W.cell? ⟨a.block, a.off + i * sz + j, none⟩ = some v := by
      intro i hi
      have h1 := hel i hi
      rw [List.getElem?_eq_getElem (by omega)] at h1
      obtain ⟨xs, h2, h3⟩ := Option.bind_eq_some_iff.1 h1
      obtain ⟨q, h4, h5⟩ := he n (Nat.lt_succ_self n) xs _ h3
      unfold World.cells? at h2
      split at h2
      · have hblk : (a.add (i * sz)).block = a.block := by unfold Addr.add; split <;> rfl
        have hoff : (a.add (i * sz)).off = a.off + i * sz := by
          unfold Addr.add
          split
          · rename_i h0
            rw [h0]
            rfl
          · rfl
        obtain ⟨k1, k2⟩ := cells_mapM hblk h2
        rw [hoff] at k2
        exact ⟨q, xs, _, List.getElem?_eq_getElem (by omega), h4, h5, k1, k2⟩
      · cases h2
    have hspot : len = 0 ∨ a.spot = none := by
      rcases Nat.eq_zero_or_pos len with h0 | h0
      · exact .inl h0
      · right
        have h1 := hel 0 h0
        rw [List.getElem?_eq_getElem (by omega)] at h1
        obtain ⟨xs, h2, _⟩ := Option.bind_eq_some_iff.1 h1
        unfold World.cells? at h2
        split at h2
        · have hl : xs.length = sz := by simpa using Lib.mapM_length h2
          obtain ⟨u, _, h4⟩ := Lib.mapM_at h2 0 0 (by simp [hpos])
          have := World.cell?_spot h4
          simpa [Addr.add] using this
        · cases h2
    have hrow : ∀ (k m : Nat), m + k = len → ∃ l : List α, l.length = k ∧ Pairs ok l ((elems.drop m).map (·.1)) ∧ RelRow (C0 W) (l.map en) a.block (a.off + m * sz) sz := by
      intro k
      induction k with
      | zero => exact fun m hm => ⟨[], rfl, by rw [List.drop_eq_nil_of_le (by omega)]; exact .nil, trivial⟩
      | succ k ih =>
        intro m hm
        obtain ⟨l, h1, h2, h3⟩ := ih (m + 1) (by omega)
        obtain ⟨q, xs, y, g0, g1, g2, g3, g4⟩ := hone m (by omega)
        obtain ⟨hmlt, rfl⟩ := List.getElem?_eq_some_iff.1 g0
        refine ⟨q :: l, by simp [h1], by rw [List.drop_eq_getElem_cons hmlt, List.map_cons]; exact .cons g2 h2, ?_⟩
        rw [List.map_cons]
        refine relRow_cons.2 ⟨hen q, ?_, ?_⟩
        · refine relAt_cells (fun off => fix0 off ?_) g1.1 g1.2 g4
          cases xs with
          | nil => simp at g3; omega
          | cons v xs =>
            have := g4 0 v rfl
            unfold World.cell? at this
            split at this
            · rename_i hh
              exact (Array.getElem?_eq_some_iff.1 hh).1
            · cases this
        · rw [show a.off + m * sz + sz = a.off + (m + 1) * sz by rw [Nat.add_mul, Nat.one_mul, Nat.add_assoc]]
          exact h3
    obtain ⟨l, h1, h2, h3⟩ := hrow len 0 (by omega)
    refine ⟨false, l, elems.map (·.1), rest.map (·.1), ⟨⟨?_, trivial⟩, fun v hv => by simp at hv; subst hv; rfl⟩, .inr rfl, by omega, h2⟩
    have hnil : (l.map en).length = len := by simpa using h1
    have hgoal : RelV (C0 W) (.sl sz (l.map en)) (.slice (some a) len cap) := by
      refine ⟨a.block, a.off, cap, a.spot, by rw [hnil], ?_, by omega, hm, by simpa using h3⟩
      rcases hspot with h | h
      · left
        exact List.eq_nil_of_length_eq_zero (by omega)
      · exact .inr h
    cases hm' : l.map en with
    | nil => rw [hm'] at hgoal; exact hgoal
    | cons b r => rw [hm'] at hgoal; exact hgoal
/-- A slice that is read, told by what it is read as. -/
theorem Pairs.mem {α β : Type} {R : α → β → Prop} {l : List α} {m : List β} (h : Pairs R l m) {a : α} (ha : a ∈ l) : ∃ b ∈ m, R a b := by
  induction h with
  | nil => cases ha
  | cons h1 _ ih =>
    rcases List.mem_cons.1 ha with rfl | ha
    · exact ⟨_, List.mem_cons_self, h1⟩
    · obtain ⟨b, hb, h⟩ := ih ha
      exact ⟨b, List.mem_cons_of_mem _ hb, h⟩
theorem Pairs.length {α β : Type} {R : α → β → Prop} {l : List α} {m : List β} (h : Pairs R l m) : l.length = m.length := by
  induction h with
  | nil => rfl
  | cons _ _ ih => simp [ih]
theorem Pairs.sum {α β : Type} {R : α → β → Prop} {f : α → Nat} {g : β → Nat} {l : List α} {m : List β} (h : Pairs R l m) (hr : ∀ a b, R a b → f a ≤ g b) : (l.map f).sum ≤ (m.map g).sum := by
  induction h with
  | nil => exact Nat.le_refl _
  | cons h1 _ ih =>
    have := hr _ _ h1
    simp only [List.map_cons, List.sum_cons]
    omega
/-- What a measure of readings must keep. -/
structure Bulk (B : DataW H → Nat) : Prop where
  slice : ∀ es sp, (es.map B).sum + 1 ≤ B (.slice es sp)
  pos : ∀ d, 1 ≤ B d
  agg : ∀ ps, (ps.map B).sum + 1 ≤ B (.agg ps)
  str : ∀ bs, bs.length + 1 ≤ B (.lit (.string bs))
theorem Bulk.row {B : DataW H → Nat} (hB : Bulk B) {x : DataW H} {ds sp : List (DataW H)} (h : (x = .nil ∧ ds = []) ∨ x = .slice ds sp) : (ds.map B).sum + 1 ≤ B x := by
  rcases h with ⟨rfl, rfl⟩ | rfl
  · exact hB.pos _
  · exact hB.slice _ _
theorem Bulk.len {B : DataW H → Nat} (hB : Bulk B) (ds : List (DataW H)) : ds.length ≤ (ds.map B).sum := by
  induction ds with
  | nil => exact Nat.le_refl _
  | cons d ds ih =>
    have := hB.pos d
    simp only [List.map_cons, List.sum_cons, List.length_cons]
    omega
theorem sum_get {B : DataW H → Nat} {ds : List (DataW H)} {d : DataW H} (h : d ∈ ds) : B d ≤ (ds.map B).sum := by
  induction ds with
  | nil => cases h
  | cons e ds ih =>
    simp only [List.map_cons, List.sum_cons]
    rcases List.mem_cons.1 h with rfl | h
    · omega
    · have := ih h
      omega
theorem dec_strB {fuel : Nat} {t : TypeId} {cs : List Value} {x : DataW H × List MemPlace} (ht : P.underlying t = some .string) (h : DataW.trod enc P W base spare held fuel t cs = some x) : ∃ s : ByteArray, CellsOf W [.val (.string s)] cs ∧ x.1 = .lit (.string s.data.toList) := by
  obtain ⟨s, rfl, rfl, hs⟩ := DataW.trod_string ht h
  exact ⟨s, ⟨⟨rfl, trivial⟩, fun v hv => by simp at hv; subst hv; rfl⟩, rfl⟩
theorem Bulk.ofStr {B : DataW H → Nat} (hB : Bulk B) {x : DataW H} {s : ByteArray} (h : x = .lit (.string s.data.toList)) : s.size + 1 ≤ B x := by
  rw [h]
  have := hB.str s.data.toList
  simpa using this
theorem field_atB {fs : Array Field} {cs : List Value} {n : Nat} {xs : List (DataW H × List MemPlace)} (hlen : xs.length = fs.size) (hf : ∀ (i : Nat) (f : Field), fs[i]? = some f → DataW.trod enc P W base spare held n f.type ((cs.drop f.offset).take (P.cellsOf f.type)) = xs[i]?)
    (i : Nat) {f : Field} (hi : fs[i]? = some f) {t o k : Nat} (ht : f.type = t) (ho : f.offset = o) (hk : P.cellsOf t = k) : ∃ y, xs[i]? = some y ∧ DataW.trod enc P W base spare held n t ((cs.drop o).take k) = some y := by
  subst ht ho hk
  have h1 : i < xs.length := by rw [hlen]; exact (Array.getElem?_eq_some_iff.1 hi).1
  exact ⟨xs[i], List.getElem?_eq_getElem h1, by rw [hf i f hi, List.getElem?_eq_getElem h1]⟩
theorem list_of {α : Type} : ∀ {xs : List α} (ys : List α), xs.length = ys.length → (∀ (i : Nat) (y : α), ys[i]? = some y → xs[i]? = some y) → xs = ys
  | [], [], _, _ => rfl
  | x :: xs, y :: ys, hl, h => by
    have h0 := h 0 y rfl
    simp only [List.getElem?_cons_zero, Option.some.injEq] at h0
    rw [h0, list_of (xs := xs) ys (by simpa using hl) fun i z hz => by have := h (i + 1) z (by simpa using hz); simpa using this]
  | [], _ :: _, hl, _ => by simp at hl
  | _ :: _, [], hl, _ => by simp at hl
end Go.Proofs.Ev

