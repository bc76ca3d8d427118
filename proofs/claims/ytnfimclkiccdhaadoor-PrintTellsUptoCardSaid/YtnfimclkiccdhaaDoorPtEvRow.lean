import Derived.Test.YtnfimclkiccdhaaDoorPtEvDraw2
import Derived.WalkKit
import Derived.ProofKit
import Derived.OpenShut
import Derived.ShutString
import Derived.ChangeOld
import Derived.Below
import Derived.Carry
import Derived.Deep.DeepHandedRow
import Derived.Lib.LaidTab
/-! From a contract to a row. -/
namespace Go.Proofs.Ev
set_option linter.unusedSimpArgs false
set_option linter.unusedVariables false
open Go
variable {P : Program} {Γ : List (Nat × List AV)}

/-- A world as it is when the call begins: nothing of it is written. -/
def C0 (W : World) : Ctx := ⟨fun _ => 0, [], W⟩
theorem relS0 (W : World) : RelS (C0 W) := ⟨fun o cs h => by simp [C0] at h, fun o ks vs h => by simp [C0] at h, fun o n sz h => by simp [C0] at h, fun o h => by simp [C0] at h, fun o r env h => by simp [C0] at h, fun k g h => by simp [C0] at h, fun o o' h => by simp [C0, Ctx.lim] at h⟩
theorem fix0 {W : World} {b : Nat} (off : Nat) (h : b < W.heap.size) : (C0 W).FixC b off := ⟨h, fun o l ho => by simp [C0, Ctx.lim] at ho⟩
theorem fixB0 {W : World} {b : Nat} (h : b < W.heap.size) : (C0 W).FixB b := ⟨h, fun o l ho => by simp [C0, Ctx.lim] at ho⟩
theorem below_of_ext {W : World} {D : Ctx} (h : Ext (C0 W) D) : RowKit.Below W.heap.size W D.w :=
  ⟨h.os, h.tape, h.output, h.size, fun b hb => (h.fixB b (fixB0 hb)).1⟩
/-- A contract, in the world of the call. -/
theorem ACalls.row {f : FuncId} {avs : List AV} {W : World} {args : Array Value} (h : ACalls P Γ f avs [] (fun v _ => v = .val (.bool true))) (hg : RelG (C0 W) Γ) (hl : RelL (C0 W) avs args.toList) :
    Calls P f args W fun e w' => e = .returned (.bool true) ∧ RowKit.Below W.heap.size W w' := by
  refine (h (C0 W) args.toList rfl (relS0 W) hg hl).mono ?_
  rintro e w' ⟨D, x, v, rfl, rfl, k2, _, k4, rfl⟩
  cases k4
  exact ⟨rfl, below_of_ext k2⟩

theorem args_stay {H : Type} {enc : TypeId × Value → H} (hl : laidOutB P = true) {W W' : World} (hb : RowKit.Below W.heap.size W W') : ∀ {ts : List TypeId} {vs : List Value} {ds : List (DataW H)} {ps : List MemPlace},
    DataW.TrodAll enc P W 0 (fun _ => true) true ts vs ds ps → (∀ t ∈ ts, P.readableRec t = true ∧ t < P.types.size) → (∀ x ∈ ps, x.block < W.heap.size) → DataW.TrodAll enc P W' 0 (fun b => decide (b < W.heap.size)) true ts vs ds ps
  | [], [], [], ps, h, _, _ => h
  | t :: ts, v :: vs, d :: ds, ps, h, ht, hlt => by
    obtain ⟨p, q, h1, h2, rfl⟩ := h
    have h0 := ht t List.mem_cons_self
    exact ⟨p, q, RowKit.Below.trod hl h0.1 h0.2 h1 hb (fun x hx => hlt x (List.mem_append_left _ hx)), args_stay hl hb h2 (fun t' h' => ht t' (List.mem_cons_of_mem _ h')) (fun x hx => hlt x (List.mem_append_right _ hx)), rfl⟩
  | [], [], _ :: _, _, h, _, _ => h.elim
  | [], _ :: _, _, _, h, _, _ => h.elim
  | _ :: _, [], _, _, h, _, _ => h.elim
  | _ :: _, _ :: _, [], _, h, _, _ => h.elim

/-- The row's end: a law that returns true. -/
theorem post_true {H : Type} {enc : TypeId × Value → H} {f : Func} {s : ChangeSpec} {W W' : World} {args : Array Value} {ds gs : List (DataW H)} {before : List MemPlace} {tb : TypeId} (hl : laidOutB P = true)
    (hW : DataW.Whole enc P f.params.toList s.vars false W args.toList ds gs before) (hv : s.vars = []) (hr : f.resultTypes = #[tb]) (htb : P.underlying tb = some .bool) (hp : ∀ t ∈ f.params.toList, P.readableRec t = true ∧ t < P.types.size)
    (hs : s.fn H (ds ++ gs) = { results := [.lit (.bool true)], args := ds }) (hb : RowKit.Below W.heap.size W W') : s.post enc P f false true false false W args (.bool true) W' := by
  have hW' := hW
  obtain ⟨p, q, hA, hV, rfl, hz, hn⟩ := hW
  rw [hv] at hV
  have hgs : gs = [] ∧ q = [] := by
    cases gs with
    | nil => exact ⟨rfl, hV⟩
    | cons g gs => exact hV.elim
  obtain ⟨rfl, rfl⟩ := hgs
  refine ⟨ds, [], p ++ [], [], p, [], hW', ?_, ?_, ?_, hb.frame _, fun h => by cases h⟩
  · rw [hs, hr]
    exact ⟨[], [], ⟨1, by simp [DataW.trod, Value.cells, htb]⟩, rfl, rfl⟩
  · rw [hs]
    exact args_stay hl hb hA hp (fun x hx => hW'.lt x (by simpa using hx))
  · rw [hs, hv]
    rfl

section
variable {H : Type} {enc : TypeId × Value → H} {W : World} {base : Nat} {spare : Nat → Bool} {held : Bool}
theorem relAt_cells {C : Ctx} {b : Nat} (hfix : ∀ off, C.FixC b off) : ∀ {cs : List AV} {xs : List Value} {off : Nat}, RelL C cs xs → (∀ v ∈ xs, v.oneCell' = true) → (∀ j v, xs[j]? = some v → C.w.cell? ⟨b, off + j, none⟩ = some v) → RelAt C cs b off
  | [], _, _, _, _, _ => trivial
  | c :: cs, x :: xs, off, h, h1, hc => by
    refine ⟨⟨x, by simpa using hc 0 x rfl, h1 x List.mem_cons_self, h.1⟩, hfix off, relAt_cells hfix h.2 (fun v hv => h1 v (List.mem_cons_of_mem _ hv)) (fun j v hj => ?_)⟩
    have := hc (j + 1) v (by simpa using hj)
    rwa [show off + 1 + j = off + (j + 1) by omega]
  | _ :: _, [], _, h, _, _ => h.elim
def rowAV (sz : Nat) (nl : Bool) (l : List AV) : AV := match l with
  | [] => if nl then .nilsl else .sl sz []
  | a :: l => .sl sz (a :: l)
theorem row_false (sz : Nat) (l : List AV) : rowAV sz false l = .sl sz l := by cases l <;> rfl
theorem len_row (sz : Nat) (nl : Bool) (l : List AV) : aLenSl (rowAV sz nl l) = some (.val (.int .i64 l.length)) := by
  cases l
  · cases nl <;> rfl
  · rfl
theorem at_row {sz : Nat} {nl : Bool} {l : List AV} {k : IntKind} {i : Nat} {a : AV} (h : l[i]? = some a) : aAt sz (rowAV sz nl l) (.val (.int k i)) = some (.er a.cells) := by
  cases l with
  | nil => simp at h
  | cons b l => exact at_sl h
theorem one_row (sz : Nat) (nl : Bool) (l : List AV) : (rowAV sz nl l).one = true := by
  cases l
  · cases nl <;> rfl
  · rfl
theorem cells_row (sz : Nat) (nl : Bool) (l : List AV) : (rowAV sz nl l).cells = [rowAV sz nl l] := by
  cases l
  · cases nl <;> rfl
  · rfl
attribute [go_sem] len_row one_row cells_row

/-- Cells, as values that were read. -/
def CellsOf (W : World) (cs : List AV) (xs : List Value) : Prop := RelL (C0 W) cs xs ∧ ∀ v ∈ xs, v.oneCell' = true
theorem CellsOf.append {cs ds : List AV} {xs ys : List Value} (h : CellsOf W cs xs) (k : CellsOf W ds ys) : CellsOf W (cs ++ ds) (xs ++ ys) :=
  ⟨relL_append h.1 k.1, fun v hv => by rcases List.mem_append.1 hv with h' | h'; exact h.2 v h'; exact k.2 v h'⟩
theorem dec_int {fuel : Nat} {t : TypeId} {k : IntKind} {cs : List Value} {x : DataW H × List MemPlace} (ht : P.underlying t = some (.int k)) (h : DataW.trod enc P W base spare held fuel t cs = some x) : ∃ n, CellsOf W [.val (.int k n)] cs ∧ (Lit.int k n).wf = true := by
  obtain ⟨n, rfl, _, hw⟩ := DataW.trod_int ht h
  exact ⟨n, ⟨⟨rfl, trivial⟩, fun v hv => by simp at hv; subst hv; rfl⟩, hw⟩
theorem cells_mapM {b : Nat} {a : Addr} {n : Nat} {xs : List Value} (hb : a.block = b) (h : (List.range n).mapM (fun i => W.cell? (a.add i)) = some xs) : xs.length = n ∧ ∀ j v, xs[j]? = some v → W.cell? ⟨b, a.off + j, none⟩ = some v := by
  have hl : xs.length = n := by simpa using Lib.mapM_length h
  refine ⟨hl, fun j v hj => ?_⟩
  have hjn : j < n := by rw [← hl]; exact (List.getElem?_eq_some_iff.1 hj).1
  obtain ⟨u, h1, h2⟩ := Lib.mapM_at h j j (by simp [hjn])
  rw [hj] at h1
  cases h1
  have hs := World.cell?_spot h2
  have : a.add j = ⟨b, a.off + j, none⟩ := by
    unfold Addr.add
    by_cases h0 : j = 0
    · rw [if_pos h0]
      have : a.spot = none := by simpa [Addr.add, h0] using hs
      cases a
      simp at this hb
      subst h0
      simp [this, hb]
    · rw [if_neg h0]
      simp [hb]
  rw [← this]
  exact h2
/-- A slice that is read, told by what it is read as. -/
theorem dec_sliceD {α : Type} (en : α → AV) (dt : α → DataW H) {sz : Nat} {fuel : Nat} {t e : TypeId} {cs : List Value} {x : DataW H × List MemPlace} (ht : P.underlying t = some (.slice e)) (hsz : P.cellsOf e = sz) (hpos : 0 < sz)
    (hen : ∀ a, (en a).cells.length = sz) (he : ∀ n cs x a, DataW.trod enc P W base spare held n e cs = some x → x.1 = dt a → CellsOf W (en a).cells cs)
    (h : DataW.trod enc P W base spare held fuel t cs = some x) (l : List α) (r : List (DataW H)) (hx : x.1 = .slice (l.map dt) r) : CellsOf W [.sl sz (l.map en)] cs := by
  rcases DataW.trod_slice ht h with ⟨rfl, rfl⟩ | ⟨a, len, cap, elems, rest, n, rfl, rfl, rfl, _, hl, hm, hlen, hel, _⟩
  · cases hx
  · rw [hsz] at hel
    simp only [DataW.slice.injEq] at hx
    have hll : l.length = len := by
      have := congrArg List.length hx.1
      simp at this
      omega
    have hone : ∀ i (hi : i < len), ∃ (xs : List Value), CellsOf W (en (l[i]'(by omega))).cells xs ∧ xs.length = sz ∧ ∀ j v, xs[j]? = some v → W.cell? ⟨a.block, a.off + i * sz + j, none⟩ = some v := by
      intro i hi
      have h1 := hel i hi
      rw [List.getElem?_eq_getElem (by omega)] at h1
      obtain ⟨xs, h2, h3⟩ := Option.bind_eq_some_iff.1 h1
      have hd : (elems[i]'(by omega)).1 = dt (l[i]'(by omega)) := by
        have := congrArg (fun q => q[i]?) hx.1
        simp only [List.getElem?_map, List.getElem?_eq_getElem (show i < elems.length by omega), List.getElem?_eq_getElem (show i < l.length by omega), Option.map_some, Option.some.injEq] at this
        exact this
      have h4 := he n xs _ _ h3 hd
      unfold World.cells? at h2
      split at h2
      · have hblk : (a.add (i * sz)).block = a.block := by unfold Addr.add; split <;> rfl
        have hoff : (a.add (i * sz)).off = a.off + i * sz := by
          unfold Addr.add
          split
          · rename_i h0
            rw [h0]
            rfl
          · rfl
        obtain ⟨k1, k2⟩ := cells_mapM hblk h2
        rw [hoff] at k2
        exact ⟨xs, h4, k1, k2⟩
      · cases h2
    have hspot : len = 0 ∨ a.spot = none := by
      rcases Nat.eq_zero_or_pos len with h0 | h0
      · exact .inl h0
      · right
        have h1 := hel 0 h0
        rw [List.getElem?_eq_getElem (by omega)] at h1
        obtain ⟨xs, h2, _⟩ := Option.bind_eq_some_iff.1 h1
        unfold World.cells? at h2
        split at h2
        · have hl : xs.length = sz := by simpa using Lib.mapM_length h2
          obtain ⟨u, _, h4⟩ := Lib.mapM_at h2 0 0 (by simp [hpos])
          have := World.cell?_spot h4
          simpa [Addr.add] using this
        · cases h2
    have hrow : ∀ (k m : Nat), m + k = len → RelRow (C0 W) ((l.drop m).map en) a.block (a.off + m * sz) sz := by
      intro k
      induction k with
      | zero =>
        intro m hm
        rw [List.drop_eq_nil_of_le (by omega)]
        trivial
      | succ k ih =>
        intro m hm
        have h3 := ih (m + 1) (by omega)
        obtain ⟨xs, g1, g3, g4⟩ := hone m (by omega)
        rw [List.drop_eq_getElem_cons (by omega), List.map_cons]
        refine relRow_cons.2 ⟨hen _, ?_, ?_⟩
        · refine relAt_cells (fun off => fix0 off ?_) g1.1 g1.2 g4
          cases xs with
          | nil => simp at g3; omega
          | cons v xs =>
            have := g4 0 v rfl
            unfold World.cell? at this
            split at this
            · rename_i hh
              exact (Array.getElem?_eq_some_iff.1 hh).1
            · cases this
        · rw [show a.off + m * sz + sz = a.off + (m + 1) * sz by rw [Nat.add_mul, Nat.one_mul, Nat.add_assoc]]
          exact h3
    refine ⟨⟨?_, trivial⟩, fun v hv => by simp at hv; subst hv; rfl⟩
    refine ⟨a.block, a.off, cap, a.spot, by rw [List.length_map, hll], ?_, by rw [List.length_map, hll]; exact hl, hm, by simpa using hrow len 0 (by omega)⟩
    rcases hspot with h | h
    · left
      exact List.eq_nil_of_length_eq_zero (by rw [List.length_map]; omega)
    · exact .inr h
end
end Go.Proofs.Ev

