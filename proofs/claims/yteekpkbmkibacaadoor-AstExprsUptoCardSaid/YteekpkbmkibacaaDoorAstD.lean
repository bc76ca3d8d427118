import Derived.Test.YteekpkbmkibacaaDoorAstU
import Derived.Test.YteekpkbmkibacaaDoorEvBulk
/-! Programs of the document, as they are read, and how much they hold. -/
namespace Go.Proofs.Tryd
set_option linter.unusedSimpArgs false
set_option linter.unusedVariables false
open Go Go.Proofs.Ev
namespace A
variable {H : Type} {enc : TypeId × Value → H} {W : World} {base : Nat} {sp : Nat → Bool} {held : Bool} {B : DataW H → Nat}
def E.nm : E → ByteArray
  | .mk _ _ _ s _ _ => s
def eB (e : E) (b : Nat) : Prop := e.size ≤ b ∧ ∀ d ∈ e.pre, d.nm.size ≤ b
theorem eB.fits {e : E} {b : Nat} (h : eB e b) (hb : b ≤ 1100000) : e.fits := fun d hd => by
  have := h.2 d hd
  cases d
  simp only [E.nm, E.fit] at this ⊢
  omega
theorem pairs_size {l : List E} {ds : List (DataW H)} (h : Pairs (fun e d => eB e (B d)) l ds) : sizeL l ≤ (ds.map B).sum := by
  induction h with
  | nil => exact Nat.le_refl _
  | cons h1 _ ih =>
    have := h1.1
    simp only [sizeL, List.map_cons, List.sum_cons]
    omega
theorem pairs_names {l : List E} {ds : List (DataW H)} (h : Pairs (fun e d => eB e (B d)) l ds) : ∀ d ∈ preL l, d.nm.size ≤ (ds.map B).sum := by
  induction h with
  | nil => intro d hd; cases hd
  | @cons e b l m h1 _ ih =>
    intro d hd
    simp only [preL, List.mem_append] at hd
    simp only [List.map_cons, List.sum_cons]
    rcases hd with hd | hd
    · have := h1.2 d hd
      omega
    · have := ih d hd
      omega
theorem sum5 (a b c d e : Nat) : [a, b, c, d, e].sum = a + b + c + d + e := by simp [List.sum_cons]; omega
theorem dec_expr (hB : Bulk B) : ∀ (n : Nat) (cs : List Value) (x : DataW H × List MemPlace), DataW.trod enc Tryd.prog W base sp held n 43 cs = some x → ∃ e : E, CellsOf W e.enc.cells cs ∧ eB e (B x.1) := by
  intro n
  induction n using Nat.strongRecOn with
  | ind n ih =>
    intro cs x h
    obtain ⟨xs, m, hm, rfl, hl, hlen, hf⟩ := DataW.trod_struct underlying43 h
    obtain ⟨y0, q0, g0⟩ := field_atB hlen hf 0 rfl (t := 3) (o := 0) (k := 1) rfl rfl (by kernel_rfl)
    obtain ⟨a0, c0, w0⟩ := dec_int underlying3 g0
    obtain ⟨y1, q1, g1⟩ := field_atB hlen hf 1 rfl (t := 3) (o := 1) (k := 1) rfl rfl (by kernel_rfl)
    obtain ⟨a1, c1, w1⟩ := dec_int underlying3 g1
    obtain ⟨y2, q2, g2⟩ := field_atB hlen hf 2 rfl (t := 2) (o := 2) (k := 1) rfl rfl (by kernel_rfl)
    obtain ⟨a2, c2, w2⟩ := dec_int underlying2 g2
    obtain ⟨y3, q3, g3⟩ := field_atB hlen hf 3 rfl (t := 9) (o := 3) (k := 1) rfl rfl (by kernel_rfl)
    obtain ⟨a3, c3, w3⟩ := dec_strB underlying9 g3
    obtain ⟨y4, q4, g4⟩ := field_atB hlen hf 4 rfl (t := 41) (o := 4) (k := 1) rfl rfl (by kernel_rfl)
    obtain ⟨nl, l, ds, sps, c4, w4, z4, p4⟩ := dec_sliceB (sz := 5) E.enc (fun e d => eB e (B d)) underlying41 (e := 43) (by kernel_rfl) (by decide) (fun e => enc_len e) (fun k hk cs x hx => ih k (by omega) cs x hx) g4
    have hall := CellsOf.all (CellsOf.snoc (CellsOf.snoc (CellsOf.snoc (CellsOf.snoc (CellsOf.snoc (CellsOf.start cs) c0) c1) c2) c3) c4) (by rw [hl]; kernel_rfl)
    refine ⟨.mk a0 a1 a2 a3 nl l, by rw [E.enc_mk]; exact hall, ?_⟩
    have hxs := list_of (xs := xs) [y0, y1, y2, y3, y4] (by rw [hlen]; rfl) (fun i y hi => by
      match i, hi with
      | 0, hi => rw [q0]; exact hi
      | 1, hi => rw [q1]; exact hi
      | 2, hi => rw [q2]; exact hi
      | 3, hi => rw [q3]; exact hi
      | 4, hi => rw [q4]; exact hi
      | _ + 5, hi => simp at hi)
    rw [hxs]
    have hb := hB.agg ([y0, y1, y2, y3, y4].map (·.1))
    simp only [List.map_cons, List.map_nil] at hb ⊢
    rw [sum5] at hb
    have b3 := hB.ofStr w3
    have b4 := hB.row w4
    have s4 := pairs_size p4
    refine ⟨by simp only [E.size]; omega, fun d hd => ?_⟩
    simp only [E.pre, List.mem_cons] at hd
    rcases hd with rfl | hd
    · simp only [E.nm]
      omega
    · have := pairs_names p4 d hd
      omega
def varB (v : VarM) (b : Nat) : Prop := v.name.size ≤ b
theorem dec_var (hB : Bulk B) {n : Nat} {cs : List Value} {x : DataW H × List MemPlace} (h : DataW.trod enc Tryd.prog W base sp held n 77 cs = some x) : ∃ v : VarM, CellsOf W v.enc.cells cs ∧ varB v (B x.1) := by
  obtain ⟨xs, m, hm, rfl, hl, hlen, hf⟩ := DataW.trod_struct underlying77 h
  obtain ⟨y0, q0, g0⟩ := field_atB hlen hf 0 rfl (t := 9) (o := 0) (k := 1) rfl rfl (by kernel_rfl)
  obtain ⟨a0, c0, w0⟩ := dec_strB underlying9 g0
  obtain ⟨y1, q1, g1⟩ := field_atB hlen hf 1 rfl (t := 3) (o := 1) (k := 1) rfl rfl (by kernel_rfl)
  obtain ⟨a1, c1, w1⟩ := dec_int underlying3 g1
  have hall := CellsOf.all (CellsOf.snoc (CellsOf.snoc (CellsOf.start cs) c0) c1) (by rw [hl]; kernel_rfl)
  refine ⟨⟨a0, a1⟩, hall, ?_⟩
  have hb := hB.agg (xs.map (·.1))
  have hm0 := sum_get (B := B) (d := y0.1) (ds := xs.map (·.1)) (List.mem_map.2 ⟨y0, List.mem_of_getElem? q0, rfl⟩)
  have b0 := hB.ofStr w0
  simp only [varB]
  omega
theorem dec_text {n : Nat} (hB : Bulk B) {cs : List Value} {x : DataW H × List MemPlace} (h : DataW.trod enc Tryd.prog W base sp held n 9 cs = some x) : ∃ s : ByteArray, CellsOf W (str s).cells cs ∧ s.size ≤ B x.1 := by
  obtain ⟨a0, c0, w0⟩ := dec_strB underlying9 h
  have := hB.ofStr w0
  exact ⟨a0, c0, by omega⟩
def eqB (q : EqM) (b : Nat) : Prop := (q.lhs.length ≤ b ∧ ∀ s ∈ q.lhs, s.size ≤ b) ∧ eB q.rhs b
theorem eB.mono {e : E} {b c : Nat} (h : eB e b) (hb : b ≤ c) : eB e c := ⟨Nat.le_trans h.1 hb, fun d hd => Nat.le_trans (h.2 d hd) hb⟩
theorem dec_eq (hB : Bulk B) {n : Nat} {cs : List Value} {x : DataW H × List MemPlace} (h : DataW.trod enc Tryd.prog W base sp held n 81 cs = some x) : ∃ q : EqM, CellsOf W q.enc.cells cs ∧ eqB q (B x.1) := by
  obtain ⟨xs, m, hm, rfl, hl, hlen, hf⟩ := DataW.trod_struct underlying81 h
  obtain ⟨y0, q0, g0⟩ := field_atB hlen hf 0 rfl (t := 79) (o := 0) (k := 1) rfl rfl (by kernel_rfl)
  obtain ⟨nl, l, ds, sps, c0, w0, z0, p0⟩ := dec_sliceB (sz := 1) str (fun s d => s.size ≤ B d) underlying79 (e := 9) (by kernel_rfl) (by decide) (fun _ => rfl) (fun k _ cs x hx => dec_text hB hx) g0
  obtain ⟨y1, q1, g1⟩ := field_atB hlen hf 1 rfl (t := 43) (o := 1) (k := 5) rfl rfl (by kernel_rfl)
  obtain ⟨e, c1, w1⟩ := dec_expr hB _ _ _ g1
  have hall := CellsOf.all (CellsOf.snoc (CellsOf.snoc (CellsOf.start cs) c0) c1) (by rw [hl]; kernel_rfl)
  refine ⟨⟨nl, l, e⟩, hall, ?_⟩
  show eqB _ (B (.agg (xs.map (·.1))))
  have hb := hB.agg (xs.map (·.1))
  have m0 := sum_get (B := B) (d := y0.1) (ds := xs.map (·.1)) (List.mem_map.2 ⟨y0, List.mem_of_getElem? q0, rfl⟩)
  have m1 := sum_get (B := B) (d := y1.1) (ds := xs.map (·.1)) (List.mem_map.2 ⟨y1, List.mem_of_getElem? q1, rfl⟩)
  have b0 := hB.row w0
  have l0 := p0.length
  have k0 := hB.len ds
  refine ⟨⟨by simp only; omega, fun s hs => ?_⟩, w1.mono (by omega)⟩
  obtain ⟨d, hd, hsd⟩ := p0.mem hs
  have := sum_get (B := B) hd
  omega
def varsB (l : List VarM) (b : Nat) : Prop := l.length ≤ b ∧ ∀ v ∈ l, varB v b
theorem dec_vars (hB : Bulk B) {n : Nat} {cs : List Value} {x : DataW H × List MemPlace} (h : DataW.trod enc Tryd.prog W base sp held n 78 cs = some x) : ∃ (nl : Bool) (l : List VarM), CellsOf W [rowAV 2 nl (l.map VarM.enc)] cs ∧ varsB l (B x.1) := by
  obtain ⟨nl, l, ds, sps, c0, w0, z0, p0⟩ := dec_sliceB (sz := 2) VarM.enc (fun v d => varB v (B d)) underlying78 (e := 77) (by kernel_rfl) (by decide) (fun _ => rfl) (fun k _ cs x hx => dec_var hB hx) h
  have b0 := hB.row w0
  have l0 := p0.length
  have k0 := hB.len ds
  refine ⟨nl, l, c0, by omega, fun v hv => ?_⟩
  obtain ⟨d, hd, hvd⟩ := p0.mem hv
  have := sum_get (B := B) hd
  simp only [varB] at hvd ⊢
  omega
def nodeB (n : NodeM) (b : Nat) : Prop := n.name.size ≤ b ∧ varsB n.ins b ∧ varsB n.outs b ∧ varsB n.locals b ∧ (n.eqs.length ≤ b ∧ ∀ q ∈ n.eqs, eqB q b) ∧ totE n.eqs ≤ b
theorem varsB.mono {l : List VarM} {b c : Nat} (h : varsB l b) (hb : b ≤ c) : varsB l c := ⟨Nat.le_trans h.1 hb, fun v hv => Nat.le_trans (h.2 v hv) hb⟩
theorem eqB.mono {q : EqM} {b c : Nat} (h : eqB q b) (hb : b ≤ c) : eqB q c := ⟨⟨Nat.le_trans h.1.1 hb, fun s hs => Nat.le_trans (h.1.2 s hs) hb⟩, h.2.mono hb⟩
theorem nodeB.mono {n : NodeM} {b c : Nat} (h : nodeB n b) (hb : b ≤ c) : nodeB n c :=
  ⟨Nat.le_trans h.1 hb, h.2.1.mono hb, h.2.2.1.mono hb, h.2.2.2.1.mono hb, ⟨Nat.le_trans h.2.2.2.2.1.1 hb, fun q hq => (h.2.2.2.2.1.2 q hq).mono hb⟩, Nat.le_trans h.2.2.2.2.2 hb⟩
theorem dec_node (hB : Bulk B) {n : Nat} {cs : List Value} {x : DataW H × List MemPlace} (h : DataW.trod enc Tryd.prog W base sp held n 84 cs = some x) : ∃ q : NodeM, CellsOf W q.enc.cells cs ∧ nodeB q (B x.1) := by
  obtain ⟨xs, m, hm, rfl, hl, hlen, hf⟩ := DataW.trod_struct underlying84 h
  obtain ⟨y0, q0, g0⟩ := field_atB hlen hf 0 rfl (t := 9) (o := 0) (k := 1) rfl rfl (by kernel_rfl)
  obtain ⟨a0, c0, w0⟩ := dec_strB underlying9 g0
  obtain ⟨y1, q1, g1⟩ := field_atB hlen hf 1 rfl (t := 78) (o := 1) (k := 1) rfl rfl (by kernel_rfl)
  obtain ⟨nl1, l1, c1, w1⟩ := dec_vars hB g1
  obtain ⟨y2, q2, g2⟩ := field_atB hlen hf 2 rfl (t := 78) (o := 2) (k := 1) rfl rfl (by kernel_rfl)
  obtain ⟨nl2, l2, c2, w2⟩ := dec_vars hB g2
  obtain ⟨y3, q3, g3⟩ := field_atB hlen hf 3 rfl (t := 78) (o := 3) (k := 1) rfl rfl (by kernel_rfl)
  obtain ⟨nl3, l3, c3, w3⟩ := dec_vars hB g3
  obtain ⟨y4, q4, g4⟩ := field_atB hlen hf 4 rfl (t := 82) (o := 4) (k := 1) rfl rfl (by kernel_rfl)
  obtain ⟨nl4, l4, ds, sps, c4, w4, z4, p4⟩ := dec_sliceB (sz := 6) EqM.enc (fun q d => eqB q (B d)) underlying82 (e := 81) (by kernel_rfl) (by decide) (fun q => eq_len q) (fun k _ cs x hx => dec_eq hB hx) g4
  have hall := CellsOf.all (CellsOf.snoc (CellsOf.snoc (CellsOf.snoc (CellsOf.snoc (CellsOf.snoc (CellsOf.start cs) c0) c1) c2) c3) c4) (by rw [hl]; kernel_rfl)
  refine ⟨⟨a0, nl1, l1, nl2, l2, nl3, l3, nl4, l4⟩, hall, ?_⟩
  show nodeB _ (B (.agg (xs.map (·.1))))
  have hb := hB.agg (xs.map (·.1))
  have m0 := sum_get (B := B) (d := y0.1) (ds := xs.map (·.1)) (List.mem_map.2 ⟨y0, List.mem_of_getElem? q0, rfl⟩)
  have m1 := sum_get (B := B) (d := y1.1) (ds := xs.map (·.1)) (List.mem_map.2 ⟨y1, List.mem_of_getElem? q1, rfl⟩)
  have m2 := sum_get (B := B) (d := y2.1) (ds := xs.map (·.1)) (List.mem_map.2 ⟨y2, List.mem_of_getElem? q2, rfl⟩)
  have m3 := sum_get (B := B) (d := y3.1) (ds := xs.map (·.1)) (List.mem_map.2 ⟨y3, List.mem_of_getElem? q3, rfl⟩)
  have m4 := sum_get (B := B) (d := y4.1) (ds := xs.map (·.1)) (List.mem_map.2 ⟨y4, List.mem_of_getElem? q4, rfl⟩)
  have b0 := hB.ofStr w0
  have b4 := hB.row w4
  have l4' := p4.length
  have k4 := hB.len ds
  have s4 := p4.sum (f := fun q : EqM => q.rhs.size) (g := B) (fun q d h => h.2.1)
  refine ⟨by simp only; omega, w1.mono (by omega), w2.mono (by omega), w3.mono (by omega), ⟨by simp only; omega, fun q hq => ?_⟩, by simp only [totE]; omega⟩
  obtain ⟨d, hd, hqd⟩ := p4.mem hq
  have := sum_get (B := B) hd
  exact hqd.mono (by omega)
def progB (p : ProgM) (b : Nat) : Prop := (p.nodes.length ≤ b ∧ ∀ n ∈ p.nodes, nodeB n b) ∧ totN p.nodes ≤ b
theorem dec_prog (hB : Bulk B) {n : Nat} {cs : List Value} {x : DataW H × List MemPlace} (h : DataW.trod enc Tryd.prog W base sp held n 87 cs = some x) : ∃ p : ProgM, CellsOf W p.enc.cells cs ∧ progB p (B x.1) := by
  obtain ⟨xs, m, hm, rfl, hl, hlen, hf⟩ := DataW.trod_struct underlying87 h
  obtain ⟨y0, q0, g0⟩ := field_atB hlen hf 0 rfl (t := 85) (o := 0) (k := 1) rfl rfl (by kernel_rfl)
  obtain ⟨nl, l, ds, sps, c0, w0, z0, p0⟩ := dec_sliceB (sz := 5) NodeM.enc (fun q d => nodeB q (B d)) underlying85 (e := 84) (by kernel_rfl) (by decide) (fun _ => rfl) (fun k _ cs x hx => dec_node hB hx) g0
  have hall := CellsOf.all (CellsOf.snoc (CellsOf.start cs) c0) (by rw [hl]; kernel_rfl)
  refine ⟨⟨nl, l⟩, hall, ?_⟩
  show progB _ (B (.agg (xs.map (·.1))))
  have hb := hB.agg (xs.map (·.1))
  have m0 := sum_get (B := B) (d := y0.1) (ds := xs.map (·.1)) (List.mem_map.2 ⟨y0, List.mem_of_getElem? q0, rfl⟩)
  have b0 := hB.row w0
  have l0 := p0.length
  have k0 := hB.len ds
  have s0 := p0.sum (f := fun q : NodeM => totE q.eqs) (g := B) (fun q d h => h.2.2.2.2.2)
  refine ⟨⟨by simp only; omega, fun q hq => ?_⟩, by simp only [totN]; omega⟩
  obtain ⟨d, hd, hqd⟩ := p0.mem hq
  have := sum_get (B := B) hd
  exact hqd.mono (by omega)
theorem varsB.ok {l : List VarM} {b : Nat} (h : varsB l b) (hb : b ≤ 1100000) : varsOk l := ⟨Nat.le_trans h.1 hb, fun v hv => Nat.le_trans (h.2 v hv) hb⟩
theorem progB.ok {p : ProgM} {b : Nat} (h : progB p b) (hb : b ≤ 1100000) : p.ok :=
  ⟨Nat.le_trans h.1.1 hb, fun n hn => by
    obtain ⟨h1, h2, h3, h4, h5, h6⟩ := h.1.2 n hn
    exact ⟨Nat.le_trans h1 hb, h2.ok hb, h3.ok hb, h4.ok hb, Nat.le_trans h5.1 hb, fun q hq => by
      obtain ⟨g1, g2⟩ := h5.2 q hq
      exact ⟨⟨Nat.le_trans g1.1 hb, fun s hs => Nat.le_trans (g1.2 s hs) hb⟩, Nat.le_trans g2.1 hb, g2.fits hb⟩⟩⟩
end A
end Go.Proofs.Tryd
