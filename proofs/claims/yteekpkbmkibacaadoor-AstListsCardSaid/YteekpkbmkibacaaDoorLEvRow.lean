import Derived.Test.YteekpkbmkibacaaDoorLEvDraw2
import Derived.WalkKit
import Derived.ProofKit
import Derived.OpenShut
import Derived.ShutString
import Derived.ChangeOld
import Derived.Below
import Derived.Carry
import Derived.Deep.DeepHandedRow
import Derived.Lib.LaidTab
/-! From a contract to a row. -/
namespace Go.Proofs.Ev
set_option linter.unusedSimpArgs false
set_option linter.unusedVariables false
open Go
variable {P : Program} {Γ : List (Nat × List AV)}

/-- A world as it is when the call begins: nothing of it is written. -/
def C0 (W : World) : Ctx := ⟨fun _ => 0, [], W⟩
theorem relS0 (W : World) : RelS (C0 W) := ⟨fun o cs h => by simp [C0] at h, fun o ks vs h => by simp [C0] at h, fun o n sz h => by simp [C0] at h, fun o h => by simp [C0] at h, fun o r env h => by simp [C0] at h, fun o o' h => by simp [C0, Ctx.lim] at h⟩
theorem fix0 {W : World} {b : Nat} (off : Nat) (h : b < W.heap.size) : (C0 W).FixC b off := ⟨h, fun o l ho => by simp [C0, Ctx.lim] at ho⟩
theorem fixB0 {W : World} {b : Nat} (h : b < W.heap.size) : (C0 W).FixB b := ⟨h, fun o l ho => by simp [C0, Ctx.lim] at ho⟩
theorem below_of_ext {W : World} {D : Ctx} (h : Ext (C0 W) D) : RowKit.Below W.heap.size W D.w :=
  ⟨h.os, h.tape, h.output, h.size, fun b hb => (h.fixB b (fixB0 hb)).1⟩
/-- A contract, in the world of the call. -/
theorem ACalls.row {f : FuncId} {avs : List AV} {W : World} {args : Array Value} (h : ACalls P Γ f avs [] (fun v _ => v = .val (.bool true))) (hg : RelG (C0 W) Γ) (hl : RelL (C0 W) avs args.toList) :
    Calls P f args W fun e w' => e = .returned (.bool true) ∧ RowKit.Below W.heap.size W w' := by
  refine (h (C0 W) args.toList rfl (relS0 W) hg hl).mono ?_
  rintro e w' ⟨D, x, v, rfl, rfl, k2, _, k4, rfl⟩
  cases k4
  exact ⟨rfl, below_of_ext k2⟩

theorem args_stay {H : Type} {enc : TypeId × Value → H} (hl : laidOutB P = true) {W W' : World} (hb : RowKit.Below W.heap.size W W') : ∀ {ts : List TypeId} {vs : List Value} {ds : List (DataW H)} {ps : List MemPlace},
    DataW.TrodAll enc P W 0 (fun _ => true) true ts vs ds ps → (∀ t ∈ ts, P.readableRec t = true ∧ t < P.types.size) → (∀ x ∈ ps, x.block < W.heap.size) → DataW.TrodAll enc P W' 0 (fun b => decide (b < W.heap.size)) true ts vs ds ps
  | [], [], [], ps, h, _, _ => h
  | t :: ts, v :: vs, d :: ds, ps, h, ht, hlt => by
    obtain ⟨p, q, h1, h2, rfl⟩ := h
    have h0 := ht t List.mem_cons_self
    exact ⟨p, q, RowKit.Below.trod hl h0.1 h0.2 h1 hb (fun x hx => hlt x (List.mem_append_left _ hx)), args_stay hl hb h2 (fun t' h' => ht t' (List.mem_cons_of_mem _ h')) (fun x hx => hlt x (List.mem_append_right _ hx)), rfl⟩
  | [], [], _ :: _, _, h, _, _ => h.elim
  | [], _ :: _, _, _, h, _, _ => h.elim
  | _ :: _, [], _, _, h, _, _ => h.elim
  | _ :: _, _ :: _, [], _, h, _, _ => h.elim

/-- The row's end: a law that returns true. -/
theorem post_true {H : Type} {enc : TypeId × Value → H} {f : Func} {s : ChangeSpec} {W W' : World} {args : Array Value} {ds gs : List (DataW H)} {before : List MemPlace} {tb : TypeId} (hl : laidOutB P = true)
    (hW : DataW.Whole enc P f.params.toList s.vars false W args.toList ds gs before) (hv : s.vars = []) (hr : f.resultTypes = #[tb]) (htb : P.underlying tb = some .bool) (hp : ∀ t ∈ f.params.toList, P.readableRec t = true ∧ t < P.types.size)
    (hs : s.fn H (ds ++ gs) = { results := [.lit (.bool true)], args := ds }) (hb : RowKit.Below W.heap.size W W') : s.post enc P f false true false false W args (.bool true) W' := by
  have hW' := hW
  obtain ⟨p, q, hA, hV, rfl, hz, hn⟩ := hW
  rw [hv] at hV
  have hgs : gs = [] ∧ q = [] := by
    cases gs with
    | nil => exact ⟨rfl, hV⟩
    | cons g gs => exact hV.elim
  obtain ⟨rfl, rfl⟩ := hgs
  refine ⟨ds, [], p ++ [], [], p, [], hW', ?_, ?_, ?_, hb.frame _, fun h => by cases h⟩
  · rw [hs, hr]
    exact ⟨[], [], ⟨1, by simp [DataW.trod, Value.cells, htb]⟩, rfl, rfl⟩
  · rw [hs]
    exact args_stay hl hb hA hp (fun x hx => hW'.lt x (by simpa using hx))
  · rw [hs, hv]
    rfl

section
variable {H : Type} {enc : TypeId × Value → H} {W : World} {base : Nat} {spare : Nat → Bool} {held : Bool}
theorem relAt_cells {C : Ctx} {b : Nat} (hfix : ∀ off, C.FixC b off) : ∀ {cs : List AV} {xs : List Value} {off : Nat}, RelL C cs xs → (∀ v ∈ xs, v.oneCell' = true) → (∀ j v, xs[j]? = some v → C.w.cell? ⟨b, off + j, none⟩ = some v) → RelAt C cs b off
  | [], _, _, _, _, _ => trivial
  | c :: cs, x :: xs, off, h, h1, hc => by
    refine ⟨⟨x, by simpa using hc 0 x rfl, h1 x List.mem_cons_self, h.1⟩, hfix off, relAt_cells hfix h.2 (fun v hv => h1 v (List.mem_cons_of_mem _ hv)) (fun j v hj => ?_)⟩
    have := hc (j + 1) v (by simpa using hj)
    rwa [show off + 1 + j = off + (j + 1) by omega]
  | _ :: _, [], _, h, _, _ => h.elim
def rowAV (sz : Nat) (nl : Bool) (l : List AV) : AV := match l with
  | [] => if nl then .nilsl else .sl sz []
  | a :: l => .sl sz (a :: l)
theorem row_false (sz : Nat) (l : List AV) : rowAV sz false l = .sl sz l := by cases l <;> rfl
theorem len_row (sz : Nat) (nl : Bool) (l : List AV) : aLenSl (rowAV sz nl l) = some (.val (.int .i64 l.length)) := by
  cases l
  · cases nl <;> rfl
  · rfl
theorem at_row {sz : Nat} {nl : Bool} {l : List AV} {k : IntKind} {i : Nat} {a : AV} (h : l[i]? = some a) : aAt sz (rowAV sz nl l) (.val (.int k i)) = some (.er a.cells) := by
  cases l with
  | nil => simp at h
  | cons b l => exact at_sl h
theorem one_row (sz : Nat) (nl : Bool) (l : List AV) : (rowAV sz nl l).one = true := by
  cases l
  · cases nl <;> rfl
  · rfl
theorem cells_row (sz : Nat) (nl : Bool) (l : List AV) : (rowAV sz nl l).cells = [rowAV sz nl l] := by
  cases l
  · cases nl <;> rfl
  · rfl
attribute [go_sem] len_row one_row cells_row

/-- Cells, as values that were read. -/
def CellsOf (W : World) (cs : List AV) (xs : List Value) : Prop := RelL (C0 W) cs xs ∧ ∀ v ∈ xs, v.oneCell' = true
theorem CellsOf.append {cs ds : List AV} {xs ys : List Value} (h : CellsOf W cs xs) (k : CellsOf W ds ys) : CellsOf W (cs ++ ds) (xs ++ ys) :=
  ⟨relL_append h.1 k.1, fun v hv => by rcases List.mem_append.1 hv with h' | h'; exact h.2 v h'; exact k.2 v h'⟩
end
end Go.Proofs.Ev

