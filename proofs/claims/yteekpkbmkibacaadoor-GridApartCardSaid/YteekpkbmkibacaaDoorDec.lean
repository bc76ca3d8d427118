import Derived.Test.YteekpkbmkibacaaDoorEvDec
import Derived.Test.YteekpkbmkibacaaDoorDiagK
/-! Files of the document, as they are read. -/
namespace Go.Proofs.Tryd
set_option linter.unusedSimpArgs false
set_option linter.unusedVariables false
open Go Go.Proofs.Ev
theorem wf_max {n : Int} (h : (Lit.int .i64 n).wf = true) : n ≤ 9223372036854775807 := by
  have m : IntKind.i64.max = 9223372036854775807 := by decide
  simp [Lit.wf, m] at h
  omega
theorem dec_src {H : Type} {enc : TypeId × Value → H} {W : World} {base : Nat} {sp : Nat → Bool} {held : Bool} {n : Nat} {cs : List Value} {x : DataW H × List MemPlace} (h : DataW.trod enc Tryd.prog W base sp held n 108 cs = some x) : ∃ a : Src, CellsOf W a.enc.cells cs ∧ (True) := by
  obtain ⟨xs, m, hm, rfl, hl, hlen, hf⟩ := DataW.trod_struct underlying108 h
  obtain ⟨y0, g0⟩ := field_at hlen hf 0 rfl (t := 3) (o := 0) (k := 1) rfl rfl (by kernel_rfl)
  obtain ⟨a, c0, w0⟩ := dec_int underlying3 g0
  obtain ⟨y1, g1⟩ := field_at hlen hf 1 rfl (t := 3) (o := 1) (k := 1) rfl rfl (by kernel_rfl)
  obtain ⟨b, c1, w1⟩ := dec_int underlying3 g1
  have hall := CellsOf.all (CellsOf.snoc (CellsOf.snoc (CellsOf.start cs) c0) c1) (by rw [hl]; kernel_rfl)
  exact ⟨⟨a, b⟩, hall, trivial⟩
theorem dec_port {H : Type} {enc : TypeId × Value → H} {W : World} {base : Nat} {sp : Nat → Bool} {held : Bool} {n : Nat} {cs : List Value} {x : DataW H × List MemPlace} (h : DataW.trod enc Tryd.prog W base sp held n 118 cs = some x) : ∃ a : PortM, CellsOf W a.enc.cells cs ∧ (a.name.size ≤ maxLen) := by
  obtain ⟨xs, m, hm, rfl, hl, hlen, hf⟩ := DataW.trod_struct underlying118 h
  obtain ⟨y0, g0⟩ := field_at hlen hf 0 rfl (t := 9) (o := 0) (k := 1) rfl rfl (by kernel_rfl)
  obtain ⟨a, c0, w0⟩ := dec_str underlying9 g0
  obtain ⟨y1, g1⟩ := field_at hlen hf 1 rfl (t := 3) (o := 1) (k := 1) rfl rfl (by kernel_rfl)
  obtain ⟨b, c1, w1⟩ := dec_int underlying3 g1
  have hall := CellsOf.all (CellsOf.snoc (CellsOf.snoc (CellsOf.start cs) c0) c1) (by rw [hl]; kernel_rfl)
  exact ⟨⟨a, b⟩, hall, w0⟩
theorem dec_out {H : Type} {enc : TypeId × Value → H} {W : World} {base : Nat} {sp : Nat → Bool} {held : Bool} {n : Nat} {cs : List Value} {x : DataW H × List MemPlace} (h : DataW.trod enc Tryd.prog W base sp held n 120 cs = some x) : ∃ a : OutM, CellsOf W a.enc.cells cs ∧ (a.port.name.size ≤ maxLen) := by
  obtain ⟨xs, m, hm, rfl, hl, hlen, hf⟩ := DataW.trod_struct underlying120 h
  obtain ⟨y0, g0⟩ := field_at hlen hf 0 rfl (t := 118) (o := 0) (k := 2) rfl rfl (by kernel_rfl)
  obtain ⟨a, c0, w0⟩ := dec_port g0
  obtain ⟨y1, g1⟩ := field_at hlen hf 1 rfl (t := 108) (o := 2) (k := 2) rfl rfl (by kernel_rfl)
  obtain ⟨b, c1, w1⟩ := dec_src g1
  have hall := CellsOf.all (CellsOf.snoc (CellsOf.snoc (CellsOf.start cs) c0) c1) (by rw [hl]; kernel_rfl)
  exact ⟨⟨a, b⟩, hall, w0⟩
theorem dec_blk {H : Type} {enc : TypeId × Value → H} {W : World} {base : Nat} {sp : Nat → Bool} {held : Bool} {n : Nat} {cs : List Value} {x : DataW H × List MemPlace} (h : DataW.trod enc Tryd.prog W base sp held n 64 cs = some x) : ∃ a : Blk, CellsOf W a.enc.cells cs ∧ (a.ok ∧ a.n ≤ 9223372036854775807) := by
  obtain ⟨xs, m, hm, rfl, hl, hlen, hf⟩ := DataW.trod_struct underlying64 h
  obtain ⟨y0, g0⟩ := field_at hlen hf 0 rfl (t := 3) (o := 0) (k := 1) rfl rfl (by kernel_rfl)
  obtain ⟨a, c0, w0⟩ := dec_int underlying3 g0
  obtain ⟨y1, g1⟩ := field_at hlen hf 1 rfl (t := 3) (o := 1) (k := 1) rfl rfl (by kernel_rfl)
  obtain ⟨b, c1, w1⟩ := dec_int underlying3 g1
  obtain ⟨y2, g2⟩ := field_at hlen hf 2 rfl (t := 3) (o := 2) (k := 1) rfl rfl (by kernel_rfl)
  obtain ⟨c, c2, w2⟩ := dec_int underlying3 g2
  obtain ⟨y3, g3⟩ := field_at hlen hf 3 rfl (t := 2) (o := 3) (k := 1) rfl rfl (by kernel_rfl)
  obtain ⟨d, c3, w3⟩ := dec_int underlying2 g3
  obtain ⟨y4, g4⟩ := field_at hlen hf 4 rfl (t := 21) (o := 4) (k := 1) rfl rfl (by kernel_rfl)
  obtain ⟨e, c4, w4⟩ := dec_int underlying21 g4
  obtain ⟨y5, g5⟩ := field_at hlen hf 5 rfl (t := 21) (o := 5) (k := 1) rfl rfl (by kernel_rfl)
  obtain ⟨f, c5, w5⟩ := dec_int underlying21 g5
  obtain ⟨y6, g6⟩ := field_at hlen hf 6 rfl (t := 62) (o := 6) (k := 1) rfl rfl (by kernel_rfl)
  obtain ⟨nl6, l, c6, w6, z6⟩ := dec_slice (sz := 2) Src.enc (fun _ => True) underlying62 (e := 108) (by kernel_rfl) (by decide) (fun _ => rfl) (fun n _ cs x hx => dec_src hx) g6
  have hall := CellsOf.all (CellsOf.snoc (CellsOf.snoc (CellsOf.snoc (CellsOf.snoc (CellsOf.snoc (CellsOf.snoc (CellsOf.snoc (CellsOf.start cs) c0) c1) c2) c3) c4) c5) c6) (by rw [hl]; kernel_rfl)
  exact ⟨⟨a, b, c, d, e, f, nl6, l⟩, hall, ⟨z6, wf_max w3⟩⟩
theorem dec_dgm {H : Type} {enc : TypeId × Value → H} {W : World} {base : Nat} {sp : Nat → Bool} {held : Bool} {n : Nat} {cs : List Value} {x : DataW H × List MemPlace} (h : DataW.trod enc Tryd.prog W base sp held n 107 cs = some x) : ∃ a : Dgm, CellsOf W a.enc.cells cs ∧ (a.ok ∧ ∀ b ∈ a.blocks, b.n ≤ 9223372036854775807) := by
  obtain ⟨xs, m, hm, rfl, hl, hlen, hf⟩ := DataW.trod_struct underlying107 h
  obtain ⟨y0, g0⟩ := field_at hlen hf 0 rfl (t := 9) (o := 0) (k := 1) rfl rfl (by kernel_rfl)
  obtain ⟨a, c0, w0⟩ := dec_str underlying9 g0
  obtain ⟨y1, g1⟩ := field_at hlen hf 1 rfl (t := 103) (o := 1) (k := 1) rfl rfl (by kernel_rfl)
  obtain ⟨nl1, l1, c1, w1, z1⟩ := dec_slice (sz := 2) PortM.enc (fun a => a.name.size ≤ maxLen) underlying103 (e := 118) (by kernel_rfl) (by decide) (fun _ => rfl) (fun n _ cs x hx => dec_port hx) g1
  obtain ⟨y2, g2⟩ := field_at hlen hf 2 rfl (t := 104) (o := 2) (k := 1) rfl rfl (by kernel_rfl)
  obtain ⟨nl2, l2, c2, w2, z2⟩ := dec_slice (sz := 4) OutM.enc (fun a => a.port.name.size ≤ maxLen) underlying104 (e := 120) (by kernel_rfl) (by decide) (fun _ => rfl) (fun n _ cs x hx => dec_out hx) g2
  obtain ⟨y3, g3⟩ := field_at hlen hf 3 rfl (t := 105) (o := 3) (k := 1) rfl rfl (by kernel_rfl)
  obtain ⟨nl3, l3, c3, w3, z3⟩ := dec_slice (sz := 7) Blk.enc (fun a => a.ok ∧ a.n ≤ 9223372036854775807) underlying105 (e := 64) (by kernel_rfl) (by decide) (fun _ => rfl) (fun n _ cs x hx => dec_blk hx) g3
  have hall := CellsOf.all (CellsOf.snoc (CellsOf.snoc (CellsOf.snoc (CellsOf.snoc (CellsOf.start cs) c0) c1) c2) c3) (by rw [hl]; kernel_rfl)
  exact ⟨⟨a, nl1, l1, nl2, l2, nl3, l3⟩, hall, ⟨⟨w0, ⟨z1, w1⟩, ⟨z2, w2⟩, z3, fun b hb => (w3 b hb).1⟩, fun b hb => (w3 b hb).2⟩⟩
theorem dec_file {H : Type} {enc : TypeId × Value → H} {W : World} {base : Nat} {sp : Nat → Bool} {held : Bool} {n : Nat} {cs : List Value} {x : DataW H × List MemPlace} (h : DataW.trod enc Tryd.prog W base sp held n 61 cs = some x) : ∃ a : FileM, CellsOf W a.enc.cells cs ∧ (a.ok ∧ a.fit) := by
  obtain ⟨xs, m, hm, rfl, hl, hlen, hf⟩ := DataW.trod_struct underlying61 h
  obtain ⟨y0, g0⟩ := field_at hlen hf 0 rfl (t := 59) (o := 0) (k := 1) rfl rfl (by kernel_rfl)
  obtain ⟨nl0, l, c0, w0, z0⟩ := dec_slice (sz := 4) Dgm.enc (fun a => a.ok ∧ ∀ b ∈ a.blocks, b.n ≤ 9223372036854775807) underlying59 (e := 107) (by kernel_rfl) (by decide) (fun _ => rfl) (fun n _ cs x hx => dec_dgm hx) g0
  have hall := CellsOf.all (CellsOf.snoc (CellsOf.start cs) c0) (by rw [hl]; kernel_rfl)
  exact ⟨⟨nl0, l⟩, hall, ⟨⟨z0, fun d hd => (w0 d hd).1⟩, fun d hd => (w0 d hd).2⟩⟩
end Go.Proofs.Tryd
