import Derived.WalkKit
import Derived.Deep.AppendSrc
import Derived.Laws.CopyRow
import Derived.Laws.Rows
import Derived.Below
import Derived.OwnWalk
import Derived.KernelRfl
/-! Abstract values, and how they stand in a world. -/
namespace Go.Proofs.Ev
set_option linter.unusedSimpArgs false
set_option linter.unusedVariables false
open Go

/-- An abstract value: what a value is worth, without its addresses. -/
inductive AV where
  | any
  | val (v : Value)
  | agg (cs : List AV)
  | tup (cs : List AV)
  | nilsl
  | sl (sz : Nat) (es : List AV)
  | slf (sz : Nat) (es : List AV)
  | slo (nl : Bool) (sz : Nat) (es : List AV) (k : Nat)
  | er (cs : List AV)
  | ref (o off : Nat)
  | osl (o off len sz : Nat)
  | fn (f : FuncId) (caps : List AV)
  | mapo (o : Nat)
  | yl (o : Nat)
  | mapf (ks : List Value) (vs : List AV)
  | ifc (t : TypeId) (v : AV)
  deriving Inhabited

/-- What stands behind an identity: cells that may be written, a map, the right to append to a row (how many elements it has, of what size); dead: nothing any more. -/
inductive AO where
  | dead
  | cells (cs : List AV)
  | map (ks : List Value) (vs : List AV)
  | cap (n sz : Nat)
  | dfr
  | loop (r : Loop) (env : List AV)
  deriving Inhabited

/-- How many cells of its block nobody writes any more; none: it has no block. -/
def AO.lim : AO → Option Nat
  | .dead => none
  | .cells _ | .map _ _ | .dfr | .loop _ _ => some 0
  | .cap n sz => if n = 0 then none else some (n * sz)
def AO.isCap : AO → Bool
  | .cap _ _ => true
  | _ => false

/-- Where the identities lie, what stands behind them, and the world. -/
structure Ctx where
  φ : Nat → Nat
  σ : List AO
  w : World

def Ctx.lim (C : Ctx) (o : Nat) : Option Nat := (C.σ[o]?).bind AO.lim
/-- A cell that nobody writes. -/
def Ctx.FixC (C : Ctx) (b off : Nat) : Prop := b < C.w.heap.size ∧ ∀ o l, C.lim o = some l → C.φ o = b → off < l
/-- A block that nobody writes. -/
def Ctx.FixB (C : Ctx) (b : Nat) : Prop := b < C.w.heap.size ∧ ∀ o l, C.lim o = some l → C.φ o ≠ b
theorem Ctx.FixB.cell {C : Ctx} {b : Nat} (h : C.FixB b) (off : Nat) : C.FixC b off := ⟨h.1, fun o l ho e => absurd e (h.2 o l ho)⟩

/-- What a range over a function hands to the function. -/
def yv (l : Nat) : Value := .func (.yield l) #[] #[]
mutual
def RelV (C : Ctx) : AV → Value → Prop
  | .any, _ => True
  | .val v, x => x = v
  | .agg cs, x => ∃ xs : List Value, x = .agg xs.toArray ∧ RelL C cs xs
  | .tup cs, x => ∃ xs : List Value, x = .tuple xs.toArray ∧ RelL C cs xs
  | .nilsl, x => x = .slice none 0 0
  | .sl sz es, x => ∃ (b off c : Nat) (s : Option Nat), x = .slice (some ⟨b, off, s⟩) es.length c ∧ (es = [] ∨ s = none) ∧ es.length ≤ c ∧ c ≤ maxLen ∧ RelRow C es b off sz
  | .slf sz es, x => ∃ b : Nat, x = .slice (some ⟨b, 0, none⟩) es.length es.length ∧ es ≠ [] ∧ 0 < sz ∧ es.length ≤ maxLen ∧ RelRow C es b 0 sz
  | .slo nl sz es k, x => ∃ n, C.σ[k]? = some (.cap n sz) ∧ es.length ≤ n ∧ 0 < sz ∧
      (es = [] → ∃ A : Option Addr, x = .slice A 0 0 ∧ A.isNone = nl ∧ ∀ a, A = some a → a.spot = none) ∧
      (es ≠ [] → ∃ (b off c : Nat), x = .slice (some ⟨b, off, none⟩) es.length c ∧ es.length ≤ c ∧ c ≤ maxLen ∧
        (es.length = n → b = C.φ k ∧ off = 0 ∧ ∃ (arr : Array Value) (T : TypeId), C.w.heap[b]? = some (.cells arr T (0, 0)) ∧ c * sz ≤ arr.size) ∧ RelRow C es b off sz)
  | .er cs, x => ∃ b off : Nat, x = .pointer (some ⟨b, off, none⟩) ∧ RelAt C cs b off
  | .ref o off, x => (∃ a, C.σ[o]? = some a ∧ a.isCap = false) ∧ x = .pointer (some ⟨C.φ o, off, none⟩)
  | .osl o off len sz, x => (∃ a, C.σ[o]? = some a ∧ a.isCap = false) ∧ ∃ (c : Nat) (arr : Array Value) (T : TypeId), x = .slice (some ⟨C.φ o, off, none⟩) len c ∧ len ≤ c ∧ c ≤ maxLen ∧ C.w.heap[C.φ o]? = some (.cells arr T (0, 0)) ∧ off + c * sz ≤ arr.size
  | .fn f caps, x => ∃ xs : List Value, x = .func (.func f) #[] xs.toArray ∧ RelL C caps xs
  | .mapo o, x => (∃ a, C.σ[o]? = some a ∧ a.isCap = false) ∧ x = .map (some (C.φ o))
  | .yl o, x => (∃ a, C.σ[o]? = some a ∧ a.isCap = false) ∧ x = yv (C.φ o)
  | .mapf ks vs, x => ∃ b es clock, x = .map (some b) ∧ C.FixB b ∧ C.w.heap[b]? = some (.map es clock) ∧ es.toList.map (·.key) = ks ∧ RelL C vs (es.toList.map (·.val))
  | .ifc t v, x => ∃ y, x = .iface t y ∧ RelV C v y
def RelL (C : Ctx) : List AV → List Value → Prop
  | [], [] => True
  | c :: cs, x :: xs => RelV C c x ∧ RelL C cs xs
  | _, _ => False
/-- Cells from a place on. -/
def RelAt (C : Ctx) : List AV → Nat → Nat → Prop
  | [], _, _ => True
  | c :: cs, b, off => (∃ v, C.w.cell? ⟨b, off, none⟩ = some v ∧ v.oneCell' = true ∧ RelV C c v) ∧ C.FixC b off ∧ RelAt C cs b (off + 1)
/-- Elements from a place on: sz cells each. -/
def RelRow (C : Ctx) : List AV → Nat → Nat → Nat → Prop
  | [], _, _, _ => True
  | .agg cs :: es, b, off, sz => cs.length = sz ∧ RelAt C cs b off ∧ RelRow C es b (off + sz) sz
  | c :: es, b, off, sz => sz = 1 ∧ (∃ v, C.w.cell? ⟨b, off, none⟩ = some v ∧ v.oneCell' = true ∧ RelV C c v) ∧ C.FixC b off ∧ RelRow C es b (off + sz) sz
end

/-- A value's cells. -/
def AV.cells : AV → List AV
  | .agg cs => cs
  | c => [c]

theorem relRow_cons {C : Ctx} {e : AV} {es : List AV} {b off sz : Nat} : RelRow C (e :: es) b off sz ↔ e.cells.length = sz ∧ RelAt C e.cells b off ∧ RelRow C es b (off + sz) sz := by
  cases e <;> simp only [RelRow, AV.cells, RelAt] <;>
    exact ⟨fun ⟨h1, h2, h3, h4⟩ => ⟨h1.symm, ⟨h2, h3, trivial⟩, h4⟩, fun ⟨h1, ⟨h2, h3, _⟩, h4⟩ => ⟨h1.symm, h2, h3, h4⟩⟩

/-- What every step keeps. -/
structure Ext (C D : Ctx) : Prop where
  size : C.w.heap.size ≤ D.w.heap.size
  ids : ∀ o a, C.σ[o]? = some a → a.isCap = false → D.φ o = C.φ o ∧ ∃ a', D.σ[o]? = some a' ∧ a'.isCap = false
  caps : ∀ o n sz, C.σ[o]? = some (.cap n sz) → ∃ n', D.σ[o]? = some (.cap n' sz) ∧ n ≤ n' ∧ (n' = n → D.φ o = C.φ o)
  fixC : ∀ b off, C.FixC b off → D.w.cell? ⟨b, off, none⟩ = C.w.cell? ⟨b, off, none⟩ ∧ D.FixC b off
  fixB : ∀ b, C.FixB b → D.w.heap[b]? = C.w.heap[b]? ∧ D.FixB b
  shape : ∀ (b : Nat) (arr : Array Value) (T : TypeId) (fr : Nat × Nat), C.w.heap[b]? = some (.cells arr T fr) → ∃ arr' : Array Value, D.w.heap[b]? = some (.cells arr' T fr) ∧ arr'.size = arr.size
  dfr : ∀ o, C.σ[o]? = some .dfr → D.σ[o]? = some .dfr ∧ D.w.heap[D.φ o]? = C.w.heap[C.φ o]?
  fresh : ∀ o, D.σ[o]? = some .dfr → C.σ[o]? = some .dfr ∨ C.w.heap.size ≤ D.φ o
  os : D.w.os = C.w.os
  tape : D.w.tape = C.w.tape
  output : D.w.output = C.w.output

theorem Ext.len {C D : Ctx} (h : Ext C D) : C.σ.length ≤ D.σ.length := by
  rcases Nat.lt_or_ge D.σ.length C.σ.length with hlt | hge
  · exfalso
    have hg : C.σ[D.σ.length]? = some C.σ[D.σ.length] := List.getElem?_eq_getElem hlt
    have hn : D.σ[D.σ.length]? = none := by simp
    cases hc : C.σ[D.σ.length] with
    | cap n sz =>
      rw [hc] at hg
      obtain ⟨n', h1, _⟩ := h.caps _ _ _ hg
      rw [hn] at h1
      cases h1
    | _ =>
      rw [hc] at hg
      obtain ⟨_, a', h1, _⟩ := h.ids _ _ hg rfl
      rw [hn] at h1
      cases h1
  · exact hge
theorem Ext.refl (C : Ctx) : Ext C C := ⟨Nat.le_refl _, fun _ a h1 h2 => ⟨rfl, a, h1, h2⟩, fun _ n _ h => ⟨n, h, Nat.le_refl _, fun _ => rfl⟩, fun _ _ h => ⟨rfl, h⟩, fun _ h => ⟨rfl, h⟩, fun _ arr _ _ h => ⟨arr, h, rfl⟩, fun _ h => ⟨h, rfl⟩, fun _ h => .inl h, rfl, rfl, rfl⟩
theorem Ext.trans {C D E : Ctx} (h : Ext C D) (k : Ext D E) : Ext C E := {
  size := Nat.le_trans h.size k.size
  ids := fun o a h1 h2 => by
    obtain ⟨e1, a', g1, g2⟩ := h.ids o a h1 h2
    obtain ⟨e2, r⟩ := k.ids o a' g1 g2
    exact ⟨e2.trans e1, r⟩
  caps := fun o n sz h1 => by
    obtain ⟨n1, g1, g2, g3⟩ := h.caps o n sz h1
    obtain ⟨n2, l1, l2, l3⟩ := k.caps o n1 sz g1
    exact ⟨n2, l1, Nat.le_trans g2 l2, fun e => by
      have e1 : n1 = n := by omega
      have e2 : n2 = n1 := by omega
      exact (l3 e2).trans (g3 e1)⟩
  fixC := fun b off hb => by
    obtain ⟨e, hd⟩ := h.fixC b off hb
    obtain ⟨e', he⟩ := k.fixC b off hd
    exact ⟨e'.trans e, he⟩
  fixB := fun b hb => by
    obtain ⟨e, hd⟩ := h.fixB b hb
    obtain ⟨e', he⟩ := k.fixB b hd
    exact ⟨e'.trans e, he⟩
  shape := fun b arr T fr hb => by
    obtain ⟨arr', h1, h2⟩ := h.shape b arr T fr hb
    obtain ⟨arr'', k1, k2⟩ := k.shape b arr' T fr h1
    exact ⟨arr'', k1, k2.trans h2⟩
  dfr := fun o ho => by
    obtain ⟨h1, e1⟩ := h.dfr o ho
    obtain ⟨h2, e2⟩ := k.dfr o h1
    exact ⟨h2, e2.trans e1⟩
  fresh := fun o ho => by
    rcases k.fresh o ho with hd | hge
    · rcases h.fresh o hd with hc | hge
      · exact .inl hc
      · rw [← (k.ids o _ hd rfl).1] at hge
        exact .inr hge
    · exact .inr (Nat.le_trans h.size hge)
  os := k.os.trans h.os
  tape := k.tape.trans h.tape
  output := k.output.trans h.output }

theorem cell_of_heap {w w' : World} {a : Addr} (h : w'.heap[a.block]? = w.heap[a.block]?) : w'.cell? a = w.cell? a := by simp [World.cell?, h]
theorem add_lit (b o i : Nat) : (⟨b, o, none⟩ : Addr).add i = ⟨b, o + i, none⟩ := by unfold Addr.add; split <;> simp_all

mutual
theorem RelV.mono {C D : Ctx} (h : Ext C D) : ∀ {c : AV} {x : Value}, RelV C c x → RelV D c x
  | .any, _, _ => trivial
  | .val _, _, hx => by simpa [RelV] using hx
  | .agg cs, _, hx => by
    obtain ⟨xs, e, hl⟩ := hx
    exact ⟨xs, e, RelL.mono h hl⟩
  | .tup cs, _, hx => by
    obtain ⟨xs, e, hl⟩ := hx
    exact ⟨xs, e, RelL.mono h hl⟩
  | .nilsl, _, hx => by simpa [RelV] using hx
  | .sl sz es, _, hx => by
    obtain ⟨b, off, c, s, e, hs, h1, h1', hr⟩ := hx
    exact ⟨b, off, c, s, e, hs, h1, h1', RelRow.mono h hr⟩
  | .slf sz es, _, hx => by
    obtain ⟨b, e, hs, h1, h1', hr⟩ := hx
    exact ⟨b, e, hs, h1, h1', RelRow.mono h hr⟩
  | .slo nl sz es k, _, hx => by
    obtain ⟨n, h1, h2, h3, h4, h5⟩ := hx
    obtain ⟨n', g1, g2, g3⟩ := h.caps k n sz h1
    refine ⟨n', g1, Nat.le_trans h2 g2, h3, h4, fun hne => ?_⟩
    obtain ⟨b, off, c, e, k1, k2, k3, k4⟩ := h5 hne
    refine ⟨b, off, c, e, k1, k2, fun he => ?_, RelRow.mono h k4⟩
    have e1 : n' = n := by omega
    obtain ⟨l1, l2, arr, T, l3, l4⟩ := k3 (by omega)
    obtain ⟨arr', m1, m2⟩ := h.shape _ _ _ _ l3
    exact ⟨l1.trans (g3 e1).symm, l2, arr', T, m1, by omega⟩
  | .er cs, _, hx => by
    obtain ⟨b, off, e, hr⟩ := hx
    exact ⟨b, off, e, RelAt.mono h hr⟩
  | .ref o off, _, hx => by
    obtain ⟨⟨a, ho, hc⟩, e⟩ := hx
    obtain ⟨h1, h2⟩ := h.ids o a ho hc
    exact ⟨h2, by rw [e, h1]⟩
  | .osl o off len sz, _, hx => by
    obtain ⟨⟨a, ho, hc⟩, c, arr, T, e, h1, h1', h2, h3⟩ := hx
    obtain ⟨g1, g2⟩ := h.ids o a ho hc
    obtain ⟨arr', k1, k2⟩ := h.shape _ _ _ _ h2
    exact ⟨g2, c, arr', T, by rw [e, g1], h1, h1', by rw [g1]; exact k1, by omega⟩
  | .fn f caps, _, hx => by
    obtain ⟨xs, e, hl⟩ := hx
    exact ⟨xs, e, RelL.mono h hl⟩
  | .mapo o, _, hx => by
    obtain ⟨⟨a, ho, hc⟩, e⟩ := hx
    obtain ⟨h1, h2⟩ := h.ids o a ho hc
    exact ⟨h2, by rw [e, h1]⟩
  | .yl o, _, hx => by
    obtain ⟨⟨a, ho, hc⟩, e⟩ := hx
    obtain ⟨h1, h2⟩ := h.ids o a ho hc
    exact ⟨h2, by rw [e, h1]⟩
  | .mapf ks vs, _, hx => by
    obtain ⟨b, es, clock, e, hf, hb, hk, hl⟩ := hx
    obtain ⟨k1, k2⟩ := h.fixB b hf
    exact ⟨b, es, clock, e, k2, k1.trans hb, hk, RelL.mono h hl⟩
  | .ifc t v, _, hx => by
    obtain ⟨y, e, hv⟩ := hx
    exact ⟨y, e, RelV.mono h hv⟩
theorem RelL.mono {C D : Ctx} (h : Ext C D) : ∀ {cs : List AV} {xs : List Value}, RelL C cs xs → RelL D cs xs
  | [], [], _ => trivial
  | _ :: _, _ :: _, hx => ⟨RelV.mono h hx.1, RelL.mono h hx.2⟩
  | [], _ :: _, hx => hx.elim
  | _ :: _, [], hx => hx.elim
theorem RelAt.mono {C D : Ctx} (h : Ext C D) : ∀ {cs : List AV} {b off : Nat}, RelAt C cs b off → RelAt D cs b off
  | [], _, _, _ => trivial
  | _ :: _, b, off, hx => by
    obtain ⟨⟨v, hc, h1, hv⟩, hf, hr⟩ := hx
    exact ⟨⟨v, (h.fixC _ _ hf).1.trans hc, h1, RelV.mono h hv⟩, (h.fixC _ _ hf).2, RelAt.mono h hr⟩
theorem RelRow.mono {C D : Ctx} (h : Ext C D) : ∀ {es : List AV} {b off sz : Nat}, RelRow C es b off sz → RelRow D es b off sz
  | [], _, _, _, _ => trivial
  | .agg cs :: es, _, _, _, hx => by
    simp only [RelRow] at hx ⊢
    exact ⟨hx.1, RelAt.mono h hx.2.1, RelRow.mono h hx.2.2⟩
  | .any :: es, b, off, sz, hx => by
    simp only [RelRow] at hx ⊢
    obtain ⟨h0, ⟨v, hc, h1, hv⟩, hf, hr⟩ := hx
    exact ⟨h0, ⟨v, (h.fixC _ _ hf).1.trans hc, h1, RelV.mono h hv⟩, (h.fixC _ _ hf).2, RelRow.mono h hr⟩
  | .val _ :: es, b, off, sz, hx => by
    simp only [RelRow] at hx ⊢
    obtain ⟨h0, ⟨v, hc, h1, hv⟩, hf, hr⟩ := hx
    exact ⟨h0, ⟨v, (h.fixC _ _ hf).1.trans hc, h1, RelV.mono h hv⟩, (h.fixC _ _ hf).2, RelRow.mono h hr⟩
  | .tup _ :: es, b, off, sz, hx => by
    simp only [RelRow] at hx ⊢
    obtain ⟨h0, ⟨v, hc, h1, hv⟩, hf, hr⟩ := hx
    exact ⟨h0, ⟨v, (h.fixC _ _ hf).1.trans hc, h1, RelV.mono h hv⟩, (h.fixC _ _ hf).2, RelRow.mono h hr⟩
  | .nilsl :: es, b, off, sz, hx => by
    simp only [RelRow] at hx ⊢
    obtain ⟨h0, ⟨v, hc, h1, hv⟩, hf, hr⟩ := hx
    exact ⟨h0, ⟨v, (h.fixC _ _ hf).1.trans hc, h1, RelV.mono h hv⟩, (h.fixC _ _ hf).2, RelRow.mono h hr⟩
  | .sl _ _ :: es, b, off, sz, hx => by
    simp only [RelRow] at hx ⊢
    obtain ⟨h0, ⟨v, hc, h1, hv⟩, hf, hr⟩ := hx
    exact ⟨h0, ⟨v, (h.fixC _ _ hf).1.trans hc, h1, RelV.mono h hv⟩, (h.fixC _ _ hf).2, RelRow.mono h hr⟩
  | .slf _ _ :: es, b, off, sz, hx => by
    simp only [RelRow] at hx ⊢
    obtain ⟨h0, ⟨v, hc, h1, hv⟩, hf, hr⟩ := hx
    exact ⟨h0, ⟨v, (h.fixC _ _ hf).1.trans hc, h1, RelV.mono h hv⟩, (h.fixC _ _ hf).2, RelRow.mono h hr⟩
  | .slo _ _ _ _ :: es, b, off, sz, hx => by
    simp only [RelRow] at hx ⊢
    obtain ⟨h0, ⟨v, hc, h1, hv⟩, hf, hr⟩ := hx
    exact ⟨h0, ⟨v, (h.fixC _ _ hf).1.trans hc, h1, RelV.mono h hv⟩, (h.fixC _ _ hf).2, RelRow.mono h hr⟩
  | .er _ :: es, b, off, sz, hx => by
    simp only [RelRow] at hx ⊢
    obtain ⟨h0, ⟨v, hc, h1, hv⟩, hf, hr⟩ := hx
    exact ⟨h0, ⟨v, (h.fixC _ _ hf).1.trans hc, h1, RelV.mono h hv⟩, (h.fixC _ _ hf).2, RelRow.mono h hr⟩
  | .ref _ _ :: es, b, off, sz, hx => by
    simp only [RelRow] at hx ⊢
    obtain ⟨h0, ⟨v, hc, h1, hv⟩, hf, hr⟩ := hx
    exact ⟨h0, ⟨v, (h.fixC _ _ hf).1.trans hc, h1, RelV.mono h hv⟩, (h.fixC _ _ hf).2, RelRow.mono h hr⟩
  | .osl _ _ _ _ :: es, b, off, sz, hx => by
    simp only [RelRow] at hx ⊢
    obtain ⟨h0, ⟨v, hc, h1, hv⟩, hf, hr⟩ := hx
    exact ⟨h0, ⟨v, (h.fixC _ _ hf).1.trans hc, h1, RelV.mono h hv⟩, (h.fixC _ _ hf).2, RelRow.mono h hr⟩
  | .fn _ _ :: es, b, off, sz, hx => by
    simp only [RelRow] at hx ⊢
    obtain ⟨h0, ⟨v, hc, h1, hv⟩, hf, hr⟩ := hx
    exact ⟨h0, ⟨v, (h.fixC _ _ hf).1.trans hc, h1, RelV.mono h hv⟩, (h.fixC _ _ hf).2, RelRow.mono h hr⟩
  | .mapo _ :: es, b, off, sz, hx => by
    simp only [RelRow] at hx ⊢
    obtain ⟨h0, ⟨v, hc, h1, hv⟩, hf, hr⟩ := hx
    exact ⟨h0, ⟨v, (h.fixC _ _ hf).1.trans hc, h1, RelV.mono h hv⟩, (h.fixC _ _ hf).2, RelRow.mono h hr⟩
  | .yl _ :: es, b, off, sz, hx => by
    simp only [RelRow] at hx ⊢
    obtain ⟨h0, ⟨v, hc, h1, hv⟩, hf, hr⟩ := hx
    exact ⟨h0, ⟨v, (h.fixC _ _ hf).1.trans hc, h1, RelV.mono h hv⟩, (h.fixC _ _ hf).2, RelRow.mono h hr⟩
  | .mapf _ _ :: es, b, off, sz, hx => by
    simp only [RelRow] at hx ⊢
    obtain ⟨h0, ⟨v, hc, h1, hv⟩, hf, hr⟩ := hx
    exact ⟨h0, ⟨v, (h.fixC _ _ hf).1.trans hc, h1, RelV.mono h hv⟩, (h.fixC _ _ hf).2, RelRow.mono h hr⟩
  | .ifc _ _ :: es, b, off, sz, hx => by
    simp only [RelRow] at hx ⊢
    obtain ⟨h0, ⟨v, hc, h1, hv⟩, hf, hr⟩ := hx
    exact ⟨h0, ⟨v, (h.fixC _ _ hf).1.trans hc, h1, RelV.mono h hv⟩, (h.fixC _ _ hf).2, RelRow.mono h hr⟩
end

/-- A map's entries: their keys, in the order in which they came. -/
def Keyed (es : Array MapEntry) (clock : Nat) (ks : List Value) : Prop := es.toList.map (·.key) = ks ∧ clock = es.size ∧ ∀ (i : Nat) (e : MapEntry), es[i]? = some e → e.born = i
/-- What stands behind the identities stands in the world. -/
structure RelS (C : Ctx) : Prop where
  cells : ∀ o cs, C.σ[o]? = some (.cells cs) → ∃ (arr : Array Value) (T : TypeId), C.w.heap[C.φ o]? = some (.cells arr T (0, 0)) ∧ cs.length ≤ arr.size ∧
    RelL C cs (arr.toList.take cs.length) ∧ ∀ v ∈ arr.toList, v.oneCell' = true
  map : ∀ o ks vs, C.σ[o]? = some (.map ks vs) → ∃ es clock, C.w.heap[C.φ o]? = some (.map es clock) ∧ Keyed es clock ks ∧ RelL C vs (es.toList.map (·.val))
  cap : ∀ o n sz, C.σ[o]? = some (.cap n sz) → 0 < n → ∃ (arr : Array Value) (T : TypeId), C.w.heap[C.φ o]? = some (.cells arr T (0, 0)) ∧ n * sz ≤ arr.size ∧ ∀ v ∈ arr.toList, v.oneCell' = true
  dfr : ∀ o, C.σ[o]? = some .dfr → ∃ x, C.w.heap[C.φ o]? = some (.deferred x)
  loop : ∀ o r env, C.σ[o]? = some (.loop r env) → C.w.heap[C.φ o]? = some (.loop r) ∧ RelL C env r.tmps.toList
  inj : ∀ o o', (C.lim o).isSome = true → (C.lim o').isSome = true → C.φ o = C.φ o' → o = o'

theorem relL_length {C : Ctx} : ∀ {cs : List AV} {xs : List Value}, RelL C cs xs → cs.length = xs.length
  | [], [], _ => rfl
  | _ :: _, _ :: _, h => congrArg (· + 1) (relL_length h.2)
  | [], _ :: _, h => h.elim
  | _ :: _, [], h => h.elim
theorem relL_get {C : Ctx} : ∀ {cs : List AV} {xs : List Value} {i : Nat} {c : AV}, RelL C cs xs → cs[i]? = some c → ∃ x, xs[i]? = some x ∧ RelV C c x
  | [], [], _, _, _, h => by simp at h
  | c :: cs, x :: xs, 0, _, hl, h => by
    simp at h
    exact ⟨x, by simp, h ▸ hl.1⟩
  | c :: cs, x :: xs, i + 1, _, hl, h => by
    simp at h
    obtain ⟨y, h1, h2⟩ := relL_get hl.2 h
    exact ⟨y, by simpa using h1, h2⟩
  | [], _ :: _, _, _, h, _ => h.elim
  | _ :: _, [], _, _, h, _ => h.elim
theorem relL_set {C : Ctx} : ∀ {cs : List AV} {xs : List Value} {i : Nat} {c : AV} {x : Value}, RelL C cs xs → RelV C c x → RelL C (cs.set i c) (xs.set i x)
  | [], [], _, _, _, _, _ => by simp [RelL]
  | _ :: _, _ :: _, 0, _, _, hl, h => ⟨h, hl.2⟩
  | _ :: _, _ :: _, i + 1, _, _, hl, h => ⟨hl.1, relL_set hl.2 h⟩
  | [], _ :: _, _, _, _, h, _ => h.elim
  | _ :: _, [], _, _, _, h, _ => h.elim
theorem relL_append {C : Ctx} : ∀ {cs ds : List AV} {xs ys : List Value}, RelL C cs xs → RelL C ds ys → RelL C (cs ++ ds) (xs ++ ys)
  | [], _, [], _, _, h => h
  | _ :: _, _, _ :: _, _, h, k => ⟨h.1, relL_append h.2 k⟩
  | [], _, _ :: _, _, h, _ => h.elim
  | _ :: _, _, [], _, h, _ => h.elim
theorem relL_drop {C : Ctx} : ∀ {cs : List AV} {xs : List Value} (n : Nat), RelL C cs xs → RelL C (cs.drop n) (xs.drop n)
  | _, _, 0, h => by simpa using h
  | [], [], _ + 1, _ => by simp [RelL]
  | _ :: _, _ :: _, n + 1, h => by simpa using relL_drop n h.2
  | [], _ :: _, _ + 1, h => h.elim
  | _ :: _, [], _ + 1, h => h.elim
theorem relL_take {C : Ctx} : ∀ {cs : List AV} {xs : List Value} (n : Nat), RelL C cs xs → RelL C (cs.take n) (xs.take n)
  | _, _, 0, _ => by simp [RelL]
  | [], [], _ + 1, _ => by simp [RelL]
  | _ :: _, _ :: _, n + 1, h => by simpa using ⟨h.1, relL_take n h.2⟩
  | [], _ :: _, _ + 1, h => h.elim
  | _ :: _, [], _ + 1, h => h.elim
theorem relL_any {C : Ctx} : ∀ (xs : List Value), RelL C (List.replicate xs.length .any) xs
  | [] => trivial
  | _ :: xs => ⟨trivial, relL_any xs⟩
theorem relAt_drop {C : Ctx} : ∀ {cs : List AV} {b off : Nat} (n : Nat), RelAt C cs b off → RelAt C (cs.drop n) b (off + n)
  | _, _, _, 0, h => by simpa using h
  | [], _, _, _ + 1, _ => by simp [RelAt]
  | _ :: _, b, off, n + 1, h => by
    have := relAt_drop n h.2.2
    simpa [Nat.add_assoc, Nat.add_comm 1 n] using this
theorem relAt_append {C : Ctx} : ∀ {cs ds : List AV} {b off : Nat}, RelAt C cs b off → RelAt C ds b (off + cs.length) → RelAt C (cs ++ ds) b off
  | [], _, _, _, _, h => by simpa using h
  | _ :: cs, _, _, off, h, k => ⟨h.1, h.2.1, relAt_append h.2.2 (by simpa [Nat.add_assoc, Nat.add_comm 1] using k)⟩
/-- The cells themselves. -/
theorem relAt_list {C : Ctx} : ∀ {cs : List AV} {b off : Nat}, RelAt C cs b off → ∃ xs : List Value, RelL C cs xs ∧ (∀ j u, xs[j]? = some u → C.w.cell? ⟨b, off + j, none⟩ = some u) ∧ ∀ u ∈ xs, u.oneCell' = true
  | [], _, _, _ => ⟨[], trivial, fun _ _ h => by simp at h, fun _ h => by cases h⟩
  | _ :: _, b, off, h => by
    obtain ⟨⟨v, hc, h1, hv⟩, _, hr⟩ := h
    obtain ⟨xs, k1, k2, k3⟩ := relAt_list hr
    refine ⟨v :: xs, ⟨hv, k1⟩, ?_, ?_⟩
    · intro j u hj
      cases j with
      | zero =>
        simp at hj
        subst hj
        simpa using hc
      | succ j =>
        have := k2 j u (by simpa using hj)
        simpa [Nat.add_assoc, Nat.add_comm 1 j] using this
    · intro u hu
      rcases List.mem_cons.1 hu with rfl | hu
      · exact h1
      · exact k3 u hu
theorem relRow_get {C : Ctx} : ∀ {es : List AV} {b off sz j : Nat} {e : AV}, RelRow C es b off sz → es[j]? = some e → e.cells.length = sz ∧ RelAt C e.cells b (off + j * sz)
  | [], _, _, _, _, _, _, h => by simp at h
  | _ :: _, b, off, sz, 0, _, h, hc => by
    simp at hc
    subst hc
    obtain ⟨h1, h2, _⟩ := relRow_cons.1 h
    exact ⟨h1, by simpa using h2⟩
  | _ :: _, b, off, sz, j + 1, _, h, hc => by
    obtain ⟨_, _, h3⟩ := relRow_cons.1 h
    obtain ⟨h1, h2⟩ := relRow_get h3 (by simpa using hc)
    refine ⟨h1, ?_⟩
    rw [Nat.add_mul, Nat.one_mul, Nat.add_comm (j * sz) sz, ← Nat.add_assoc]
    exact h2
theorem relRow_take {C : Ctx} : ∀ {es : List AV} {b off sz : Nat} (n : Nat), RelRow C es b off sz → RelRow C (es.take n) b off sz
  | _, _, _, _, 0, _ => by simp [RelRow]
  | [], _, _, _, _ + 1, _ => by simp [RelRow]
  | _ :: _, _, _, _, n + 1, h => by
    obtain ⟨h1, h2, h3⟩ := relRow_cons.1 h
    rw [List.take_succ_cons]
    exact relRow_cons.2 ⟨h1, h2, relRow_take n h3⟩
theorem relRow_drop {C : Ctx} : ∀ {es : List AV} {b off sz : Nat} (n : Nat), RelRow C es b off sz → RelRow C (es.drop n) b (off + n * sz) sz
  | _, _, _, _, 0, h => by simpa using h
  | [], _, _, _, _ + 1, _ => by simp [RelRow]
  | _ :: _, _, off, sz, n + 1, h => by
    obtain ⟨_, _, h3⟩ := relRow_cons.1 h
    have := relRow_drop n h3
    rw [List.drop_succ_cons, Nat.add_mul, Nat.one_mul, Nat.add_comm (n * sz) sz, ← Nat.add_assoc]
    exact this
theorem relRow_flat {C : Ctx} : ∀ {es : List AV} {b off sz : Nat}, RelRow C es b off sz → RelAt C (es.flatMap AV.cells) b off ∧ (es.flatMap AV.cells).length = es.length * sz
  | [], _, _, _, _ => ⟨trivial, by simp⟩
  | e :: es, b, off, sz, h => by
    obtain ⟨h1, h2, h3⟩ := relRow_cons.1 h
    obtain ⟨k1, k2⟩ := relRow_flat h3
    refine ⟨relAt_append h2 (by rw [h1]; exact k1), ?_⟩
    simp only [List.flatMap_cons, List.length_append, h1, k2, List.length_cons]
    rw [Nat.add_mul, Nat.one_mul, Nat.add_comm]
/-- A row out of its cells. -/
theorem relRow_of {C : Ctx} {b : Nat} : ∀ {es : List AV} {off sz : Nat}, (∀ e ∈ es, e.cells.length = sz) → RelAt C (es.flatMap AV.cells) b off → RelRow C es b off sz
  | [], _, _, _, _ => trivial
  | e :: es, off, sz, hs, h => by
    have he := hs e List.mem_cons_self
    simp only [List.flatMap_cons] at h
    have h1 : RelAt C e.cells b off := by
      generalize es.flatMap AV.cells = ds at h
      clear he hs
      generalize e.cells = cs at h
      induction cs generalizing off with
      | nil => trivial
      | cons c cs ih => exact ⟨h.1, h.2.1, ih _ h.2.2⟩
    have h2 := relAt_drop e.cells.length h
    rw [List.drop_left, he] at h2
    exact relRow_cons.2 ⟨he, h1, relRow_of (fun d hd => hs d (List.mem_cons_of_mem _ hd)) h2⟩
/-- Cells that are known to stand there. -/
theorem relAt_of {C : Ctx} {b : Nat} : ∀ {cs : List AV} {off : Nat} {xs : List Value}, RelL C cs xs → (∀ j u, xs[j]? = some u → C.w.cell? ⟨b, off + j, none⟩ = some u ∧ u.oneCell' = true) → (∀ j, j < cs.length → C.FixC b (off + j)) → RelAt C cs b off
  | [], _, _, _, _, _ => trivial
  | c :: cs, off, y :: ys, hl, hc, hf => by
    have h0 := hc 0 y (by simp)
    refine ⟨⟨y, by simpa using h0.1, h0.2, hl.1⟩, by simpa using hf 0 (by simp), relAt_of hl.2 (fun j u hj => ?_) (fun j hj => ?_)⟩
    · have := hc (j + 1) u (by simpa using hj)
      rw [Nat.add_assoc, Nat.add_comm 1 j]
      exact this
    · have := hf (j + 1) (by simpa using hj)
      rw [Nat.add_assoc, Nat.add_comm 1 j]
      exact this
  | _ :: _, _, [], hl, _, _ => hl.elim
end Go.Proofs.Ev
