import Derived.Test.YteekpkbmkibacaaDoorDiagM
import Derived.Test.YteekpkbmkibacaaDoorEvDraw3
/-! Diagrams: what is the same, what is great, the document's answers. -/
namespace Go.Proofs.Tryd
set_option linter.unusedSimpArgs false
set_option linter.unusedVariables false
open Go Go.Proofs.Ev
variable {Γ : List (Nat × List AV)}
theorem any_step {α : Type} {p : α → Bool} {l : List α} {i : Nat} (h : i < l.length) (ht : (l.take i).any p = false) (hp : p l[i] = false) : (l.take (i + 1)).any p = false := by
  rw [List.take_succ_eq_append_getElem h, List.any_append, ht]
  simp [hp]
theorem any_end {α : Type} {p : α → Bool} {l : List α} {i : Nat} (h : ¬ i < l.length) (ht : (l.take i).any p = false) : l.any p = false := by
  rwa [List.take_of_length_le (by omega)] at ht
theorem any_at {α : Type} {p : α → Bool} {l : List α} {i : Nat} (h : i < l.length) (hp : p l[i] = true) : l.any p = true := List.any_eq_true.2 ⟨_, List.getElem_mem h, hp⟩
-- the same, but for nil
abbrev KBlk := Int × Int × Int × Int × Int × Int × List (Int × Int)
set_option synthInstance.maxSize 4096 in
instance : DecidableEq KBlk := fun a b => inferInstance
abbrev KDgm := ByteArray × List (ByteArray × Int) × List ((ByteArray × Int) × Int × Int) × List KBlk
set_option synthInstance.maxSize 4096 in
instance : DecidableEq KDgm := fun a b => inferInstance
def Src.key (s : Src) : Int × Int := (s.block, s.port)
def PortM.key (p : PortM) : ByteArray × Int := (p.name, p.type)
def OutM.key (o : OutM) : (ByteArray × Int) × Int × Int := (o.port.key, o.src.key)
def Blk.key (b : Blk) : KBlk := (b.kind, b.op, b.sub, b.n, b.x, b.y, b.src.map Src.key)
def Dgm.key (d : Dgm) : KDgm := (d.name, d.ins.map PortM.key, d.outs.map OutM.key, d.blocks.map Blk.key)
def FileM.key (f : FileM) : List KDgm := f.ds.map Dgm.key
theorem bT26 : prog.eqGuardType prog.depth 26 = false := by kernel_rfl
theorem eq26 (a b c d : Int) : aEqD prog 6 26 (.agg [i64 a, i64 b]) (.agg [i64 c, i64 d]) = some ((a == c) && ((b == d) && true)) := by kernel_rfl
theorem bT108 : prog.eqGuardType prog.depth 108 = false := by kernel_rfl
theorem eq108 (a b c d : Int) : aEqD prog 6 108 (.agg [i64 a, i64 b]) (.agg [i64 c, i64 d]) = some ((a == c) && ((b == d) && true)) := by kernel_rfl
theorem bT28 : prog.eqGuardType prog.depth 28 = false := by kernel_rfl
theorem eq28 (a : ByteArray) (b : Int) (c : ByteArray) (d : Int) : aEqD prog 6 28 (.agg [str a, i64 b]) (.agg [str c, i64 d]) = some ((a == c) && ((b == d) && true)) := by kernel_rfl
theorem bT118 : prog.eqGuardType prog.depth 118 = false := by kernel_rfl
theorem eq118 (a : ByteArray) (b : Int) (c : ByteArray) (d : Int) : aEqD prog 6 118 (.agg [str a, i64 b]) (.agg [str c, i64 d]) = some ((a == c) && ((b == d) && true)) := by kernel_rfl
theorem bT30 : prog.eqGuardType prog.depth 30 = false := by kernel_rfl
theorem eq30 (a : ByteArray) (b p q : Int) (c : ByteArray) (d r s : Int) : aEqD prog 6 30 (.agg [str a, i64 b, i64 p, i64 q]) (.agg [str c, i64 d, i64 r, i64 s]) = some (((a == c) && ((b == d) && true)) && (((p == r) && ((q == s) && true)) && true)) := by kernel_rfl
theorem bT120 : prog.eqGuardType prog.depth 120 = false := by kernel_rfl
theorem eq120 (a : ByteArray) (b p q : Int) (c : ByteArray) (d r s : Int) : aEqD prog 6 120 (.agg [str a, i64 b, i64 p, i64 q]) (.agg [str c, i64 d, i64 r, i64 s]) = some (((a == c) && ((b == d) && true)) && (((p == r) && ((q == s) && true)) && true)) := by kernel_rfl
theorem bin_agg {T : TypeId} {cs ds : List AV} (h : prog.eqGuardType prog.depth T = false) : aBin prog .neq T (.agg cs) (.agg ds) = (aEqD prog 6 T (.agg cs) (.agg ds)).map fun b => .val (.bool !b) := by
  simp only [aBin, h, Bool.false_eq_true, if_false]
theorem neq_src {T : TypeId} (hT : T = 26 ∨ T = 108) (a b : Src) : aBin prog .neq T a.enc b.enc = some (.val (.bool !decide (a.key = b.key))) := by
  have h : ∀ u v : Bool, u = v → some (AV.val (.bool !u)) = some (.val (.bool !v)) := fun u v e => by rw [e]
  rcases hT with rfl | rfl
  · rw [Src.enc, Src.enc, bin_agg bT26, eq26]
    exact h _ _ (by rw [Bool.eq_iff_iff]; simp [Src.key])
  · rw [Src.enc, Src.enc, bin_agg bT108, eq108]
    exact h _ _ (by rw [Bool.eq_iff_iff]; simp [Src.key])
theorem neq_port {T : TypeId} (hT : T = 28 ∨ T = 118) (a b : PortM) : aBin prog .neq T a.enc b.enc = some (.val (.bool !decide (a.key = b.key))) := by
  have h : ∀ u v : Bool, u = v → some (AV.val (.bool !u)) = some (.val (.bool !v)) := fun u v e => by rw [e]
  rcases hT with rfl | rfl
  · rw [PortM.enc, PortM.enc, bin_agg bT28, eq28, ba_beq]
    exact h _ _ (by rw [Bool.eq_iff_iff]; simp [PortM.key])
  · rw [PortM.enc, PortM.enc, bin_agg bT118, eq118, ba_beq]
    exact h _ _ (by rw [Bool.eq_iff_iff]; simp [PortM.key])
theorem neq_out {T : TypeId} (hT : T = 30 ∨ T = 120) (a b : OutM) : aBin prog .neq T a.enc b.enc = some (.val (.bool !decide (a.key = b.key))) := by
  have h : ∀ u v : Bool, u = v → some (AV.val (.bool !u)) = some (.val (.bool !v)) := fun u v e => by rw [e]
  rcases hT with rfl | rfl
  · rw [OutM.enc, OutM.enc, bin_agg bT30, eq30, ba_beq]
    exact h _ _ (by rw [Bool.eq_iff_iff]; simp [OutM.key, PortM.key, Src.key])
  · rw [OutM.enc, OutM.enc, bin_agg bT120, eq120, ba_beq]
    exact h _ _ (by rw [Bool.eq_iff_iff]; simp [OutM.key, PortM.key, Src.key])
theorem eq_step {α κ : Type} {key : α → κ} {l l' : List α} {i : Nat} (h : i < l.length) (h' : i < l'.length) (ht : (l.take i).map key = (l'.take i).map key) (he : key l[i] = key l'[i]) : (l.take (i + 1)).map key = (l'.take (i + 1)).map key := by
  rw [List.take_succ_eq_append_getElem h, List.take_succ_eq_append_getElem h', List.map_append, List.map_append, ht]
  simp [he]
theorem eq_end {α κ : Type} {key : α → κ} {l l' : List α} {i : Nat} (h : ¬ i < l.length) (hl : l.length = l'.length) (ht : (l.take i).map key = (l'.take i).map key) : l.map key = l'.map key := by
  rwa [List.take_of_length_le (by omega), List.take_of_length_le (by omega)] at ht
theorem eq_at {α κ : Type} {key : α → κ} {l l' : List α} {i : Nat} (h : i < l.length) (h' : i < l'.length) (hne : ¬ key l[i] = key l'[i]) : ¬ l.map key = l'.map key := by
  intro e
  have := congrArg (fun q => q[i]?) e
  simp [h, h'] at this
  exact hne this
theorem map_len {α κ : Type} {key : α → κ} {l l' : List α} (h : l.map key = l'.map key) : l.length = l'.length := by
  have := congrArg List.length h
  simpa using this
theorem dgm_key {x y : Dgm} : x.key = y.key ↔ x.name = y.name ∧ x.ins.map PortM.key = y.ins.map PortM.key ∧ x.outs.map OutM.key = y.outs.map OutM.key ∧ x.blocks.map Blk.key = y.blocks.map Blk.key := by
  simp only [Dgm.key, Prod.mk.injEq]
theorem blk_key {p q : Blk} : p.key = q.key ↔ p.kind = q.kind ∧ p.op = q.op ∧ p.sub = q.sub ∧ p.n = q.n ∧ p.x = q.x ∧ p.y = q.y ∧ p.src.map Src.key = q.src.map Src.key := by
  simp only [Blk.key, Prod.mk.injEq]
theorem file_ne {a b : FileM} {i : Nat} (h : i < a.ds.length) (h' : i < b.ds.length) (hne : ¬ a.ds[i].key = b.ds[i].key) : decide (a.key = b.key) = false := decide_eq_false (eq_at h h' hne)
theorem not_dec {p : Prop} [Decidable p] (h : (!decide p) = true) : ¬ p := by simpa using h
theorem dec_of {p : Prop} [Decidable p] (h : (!decide p) = false) : p := by simpa using h
-- the document's types
theorem row_bel {α : Type} {en : α → AV} (h : ∀ a n, (en a).bel n = true) (n sz : Nat) (nl : Bool) (l : List α) : (rowAV sz nl (l.map en)).bel n = true := by
  have := belL_map (n := n) en l fun x _ => h x n
  cases l with
  | nil => cases nl <;> rfl
  | cons a l => simpa [rowAV, AV.bel] using this
theorem src_bel (s : Src) (n : Nat) : s.enc.bel n = true := rfl
theorem port_bel (s : PortM) (n : Nat) : s.enc.bel n = true := rfl
theorem out_bel (s : OutM) (n : Nat) : s.enc.bel n = true := rfl
theorem blk_bel (s : Blk) (n : Nat) : s.enc.bel n = true := by simp [Blk.enc, AV.bel, belL, row_bel src_bel]
theorem dgm_bel (s : Dgm) (n : Nat) : s.enc.bel n = true := by simp [Dgm.enc, AV.bel, belL, row_bel port_bel, row_bel out_bel, row_bel blk_bel]
theorem file_bel (f : FileM) (n : Nat) : AO.bel n (.cells f.enc.cells) = true := by simp [FileM.enc, AV.cells, AO.bel, belL, row_bel dgm_bel]
theorem frz_row {α : Type} {en : α → AV} (h : ∀ a n, (en a).bel n = true) {n k sz : Nat} {σ : Sto} (hk : n ≤ k) (l : List α) : Frz n σ (.slo true sz (l.map en) k) (rowAV sz true (l.map en)) := by
  cases l with
  | nil => exact .ownNil
  | cons a l => exact .own hk (by simp) (FrzR.keep (belL_map (n := n) en (a :: l) fun x _ => h x n))
theorem src_len (d : Src) : d.enc.cells.length = 2 := rfl
theorem port_len (d : PortM) : d.enc.cells.length = 2 := rfl
theorem out_len (d : OutM) : d.enc.cells.length = 4 := rfl
theorem dgm_len (d : Dgm) : d.enc.cells.length = 4 := rfl
theorem blk_len (d : Blk) : d.enc.cells.length = 7 := rfl
theorem rsrc_get (s : Src) : aGet prog 108 s.enc.cells = some s.enc := by simp only [Src.enc, go_sem]
theorem rport_get (s : PortM) : aGet prog 118 s.enc.cells = some s.enc := by simp only [PortM.enc, go_sem]
theorem rout_get (s : OutM) : aGet prog 120 s.enc.cells = some s.enc := by simp only [OutM.enc, go_sem]
theorem rblk_get (s : Blk) : aGet prog 64 s.enc.cells = some s.enc := by simp only [Blk.enc, go_sem]
theorem rdgm_get (s : Dgm) : aGet prog 107 s.enc.cells = some s.enc := by simp only [Dgm.enc, go_sem]
theorem rfile_get (s : FileM) : aGet prog 61 s.enc.cells = some s.enc := by simp only [FileM.enc, go_sem]
-- great
def PortM.great (p : PortM) : Bool := decide ((p.name.size : Int) > 300)
def OutM.great (o : OutM) : Bool := decide ((o.port.name.size : Int) > 300)
def Blk.great (b : Blk) : Bool := decide ((b.src.length : Int) > 40)
def Dgm.great (d : Dgm) : Bool := (((((decide ((d.ins.length : Int) > 40) || decide ((d.outs.length : Int) > 40)) || decide ((d.blocks.length : Int) > 200)) || decide ((d.name.size : Int) > 300)) || d.ins.any PortM.great) || d.outs.any OutM.great) || d.blocks.any Blk.great
def FileM.great (f : FileM) : Bool := (f.ds.take 13).any Dgm.great || decide ((f.ds.length : Int) > 12)
def Dgm.small (d : Dgm) : Prop := d.ins.length ≤ 40 ∧ d.outs.length ≤ 40 ∧ d.blocks.length ≤ 200 ∧ d.name.size ≤ 300 ∧ ∀ b ∈ d.blocks, b.src.length ≤ 40
def FileM.small (f : FileM) : Prop := f.ds.length ≤ 12 ∧ ∀ d ∈ f.ds, d.small
theorem small_of {f : FileM} (h : f.great = false) : f.small := by
  simp only [FileM.great, Bool.or_eq_false_iff, decide_eq_false_iff_not] at h
  obtain ⟨h1, h2⟩ := h
  have hl : f.ds.length ≤ 12 := by omega
  rw [List.take_of_length_le (by omega)] at h1
  refine ⟨hl, fun d hd => ?_⟩
  have := List.any_eq_false.1 h1 d hd
  simp only [Dgm.great, Bool.not_eq_true, Bool.or_eq_false_iff, decide_eq_false_iff_not] at this
  obtain ⟨⟨⟨⟨⟨⟨k1, k2⟩, k3⟩, k4⟩, k5⟩, k6⟩, k7⟩ := this
  refine ⟨by omega, by omega, by omega, by omega, fun b hb => ?_⟩
  have := List.any_eq_false.1 k7 b hb
  simp only [Blk.great, decide_eq_true_eq] at this
  omega
-- the document's answers
def FileM.rblock (f : FileM) (d : Dgm) (b : Blk) : Bool :=
  if (((decide (b.kind < 0) || decide (b.kind > 7)) || decide (b.n < 0)) || decide (b.op < 0)) || decide (b.sub < 0) then false
  else if b.src.any fun s => !f.source d s then false
  else if ((decide (b.kind > 1) && decide (b.n > 0)) || ((b.kind == 1) && decide (b.n > 1))) || ((b.kind != 7) && decide (b.sub > 0)) || ((b.kind == 7) && decide (b.sub ≥ (f.ds.length : Int))) then false
  else if (b.kind == 0) || (b.kind == 1) then ((b.src.length : Int) == 0) && (b.op == 0)
  else if (b.kind == 2) || (b.kind == 4) then ((b.src.length : Int) == 1) && decide (b.op ≤ 1)
  else if b.kind == 3 then (((b.src.length : Int) == 2) && decide (b.op ≥ 1)) && decide (b.op ≤ 15)
  else if b.kind == 5 then ((b.src.length : Int) == 2) && (b.op == 0)
  else if b.kind == 6 then ((b.src.length : Int) == 3) && (b.op == 0)
  else b.op == 0
theorem rblock_eq (f : FileM) (d : Dgm) (b : Blk) (hb : b.src.length ≤ 40) (hn : b.n ≤ 9223372036854775807) : f.rblock d b = f.block d b := by
  obtain ⟨kind, op, sub, bn, bx, by', nl, src⟩ := b
  simp only at hb hn
  simp only [FileM.rblock, FileM.block]
  by_cases hk : (decide (kind < 0) || decide (kind > 7)) = true
  · rw [if_pos hk, if_pos (by simp only [hk, Bool.true_or])]
  · rw [if_neg hk]
    simp only [hk, Bool.false_or]
    have hk2 : ¬ kind < 0 ∧ ¬ kind > 7 := by simpa using hk
    have hk3 : kind = 0 ∨ kind = 1 ∨ kind = 2 ∨ kind = 3 ∨ kind = 4 ∨ kind = 5 ∨ kind = 6 ∨ kind = 7 := by omega
    generalize hA : (src.any fun s => !f.source d s) = A
    generalize hL : src.length = L at hb ⊢
    generalize f.ds.length = N
    cases A
    · rw [Bool.eq_iff_iff]
      rcases hk3 with rfl | rfl | rfl | rfl | rfl | rfl | rfl | rfl <;> simp [kindsT] <;> omega
    · rcases hk3 with rfl | rfl | rfl | rfl | rfl | rfl | rfl | rfl <;> simp [kindsT]
theorem app_at {α : Type} {en : α → AV} {l : List α} {j : Nat} (hj : j < l.length) (hl : l.length ≤ 1005) (nl : Bool) (sz b : Nat) (hb : b ≤ 4096) : ∀ (σ : Sto) (k : Nat) (v : AV), appAt σ nl sz b ((l.take j).map en) k [v] (some (.cap j sz)) = some (.slo nl sz ((l.take j).map en ++ [v]) k, σ.set k (.cap (j + 1) sz)) := by
  intro σ k v
  have hlen : ((l.take j).map en).length = j := by simp; omega
  rw [appAt_one σ nl sz b _ k j v hlen.symm (by
    rw [hlen]
    have h1 : (j + 1) * b ≤ 1005 * 4096 := Nat.mul_le_mul (by omega) hb
    simp only [fits, Bool.and_eq_true, decide_eq_true_eq]
    omega), hlen]
theorem take_at {α : Type} (en : α → AV) {l : List α} {j : Nat} (hj : j < l.length) : (l.take j).map en ++ [en l[j]] = (l.take (j + 1)).map en := by
  rw [List.take_succ_eq_append_getElem hj, List.map_append]
  rfl
def Blk.own (b : Blk) : Blk := { b with nl := true }
def Dgm.own (d : Dgm) : Dgm := { d with nlI := true, nlO := true, nlB := true, blocks := d.blocks.map Blk.own }
def FileM.own (f : FileM) : FileM := ⟨true, f.ds.map Dgm.own⟩
theorem dgm_own (d : Dgm) : d.own.enc = .agg [str d.name, rowAV 2 true (d.ins.map PortM.enc), rowAV 4 true (d.outs.map OutM.enc), rowAV 7 true (d.blocks.map fun b => b.own.enc)] := by
  simp only [Dgm.enc, Dgm.own, List.map_map]
  rfl
theorem dgm_cells (d : Dgm) : d.enc.cells = [str d.name, rowAV 2 d.nlI (d.ins.map PortM.enc), rowAV 4 d.nlO (d.outs.map OutM.enc), rowAV 7 d.nlB (d.blocks.map Blk.enc)] := rfl
theorem file_own (f : FileM) : f.own.enc = .agg [rowAV 4 true (f.ds.map fun d => d.own.enc)] := by
  simp only [FileM.enc, FileM.own, List.map_map]
  rfl
def PortM.bad (p : PortM) : Bool := decide ((p.name.size : Int) > 65535) || ((p.type != 0) && (p.type != 1))
def FileM.rbad (f : FileM) (d : Dgm) : Bool := ((decide ((d.name.size : Int) > 65535) || d.ins.any PortM.bad) || d.outs.any (fun o => o.port.bad || !f.source d o.src)) || d.blocks.any (fun b => !f.rblock d b)
def FileM.rright (f : FileM) : Bool := !(f.ds.any f.rbad)
/-- Numbers that fit. -/
def FileM.fit (f : FileM) : Prop := ∀ d ∈ f.ds, ∀ b ∈ d.blocks, b.n ≤ 9223372036854775807
theorem bad_eq (p : PortM) : p.bad = !p.right := by
  obtain ⟨name, type⟩ := p
  rw [Bool.eq_iff_iff]
  simp [PortM.bad, PortM.right]
  omega
theorem any_eq {α : Type} {p q : α → Bool} {l : List α} (h : ∀ a ∈ l, p a = q a) : l.any p = l.any q := by
  rw [Bool.eq_iff_iff, List.any_eq_true, List.any_eq_true]
  exact ⟨fun ⟨a, h1, h2⟩ => ⟨a, h1, by rw [← h a h1]; exact h2⟩, fun ⟨a, h1, h2⟩ => ⟨a, h1, by rw [h a h1]; exact h2⟩⟩
theorem rright_eq (f : FileM) (hf : f.small) (hn : f.fit) : f.rright = f.right := by
  have h1 : ∀ d ∈ f.ds, f.rbad d = !f.diagram d := fun d hd => by
    obtain ⟨k1, k2, k3, k4, k5⟩ := hf.2 d hd
    have e1 : d.ins.any PortM.bad = d.ins.any fun p => !p.right := any_eq fun p _ => bad_eq p
    have e2 : (d.outs.any fun o => o.port.bad || !f.source d o.src) = d.outs.any fun o => (!o.port.right || !f.source d o.src) := any_eq fun o _ => by rw [bad_eq]
    have e3 : (d.blocks.any fun b => !f.rblock d b) = d.blocks.any fun b => !f.block d b := any_eq fun b hb => by rw [rblock_eq f d b (k5 b hb) (hn d hd b hb)]
    have l1 : decide ((d.ins.length : Int) ≤ 16777215) = true := by simp; omega
    have l2 : decide ((d.outs.length : Int) ≤ 16777215) = true := by simp; omega
    have l3 : decide ((d.blocks.length : Int) ≤ 16777215) = true := by simp; omega
    have l4 : decide ((d.name.size : Int) ≤ 65535) = true := by simp; omega
    have l5 : decide ((d.name.size : Int) > 65535) = false := by simp; omega
    simp only [FileM.rbad, FileM.diagram, e1, e2, e3, l1, l2, l3, l4, l5, Bool.true_and, Bool.false_or, Bool.not_and, Bool.not_not]
  have l0 : decide ((f.ds.length : Int) ≤ 16777215) = true := by have := hf.1; simp; omega
  simp only [FileM.rright, FileM.right, l0, Bool.true_and, any_eq h1]
theorem blk_drop6 (b : Blk) : b.enc.cells.drop 6 = [rowAV 2 b.nl (b.src.map Src.enc)] := rfl
theorem file_len (f : FileM) : f.enc.cells.length = 1 := rfl
theorem own_key (f : FileM) : f.own.key = f.key := by
  simp only [FileM.key, FileM.own, List.map_map]
  refine List.map_congr_left fun d _ => ?_
  show d.own.key = d.key
  simp only [Dgm.key, Dgm.own, List.map_map]
  rfl
theorem own_results (f : FileM) (b : Blk) : f.own.results b.own = f.results b := by
  simp only [FileM.results, FileM.own, Blk.own, List.length_map, List.getElem?_map]
  cases f.ds[b.sub.toNat]? <;> rfl
theorem own_results' (f : FileM) (b : Blk) : f.own.results b = f.results b := by
  simp only [FileM.results, FileM.own, List.length_map, List.getElem?_map]
  cases f.ds[b.sub.toNat]? <;> rfl
theorem own_source (f : FileM) (d : Dgm) (s : Src) : f.own.source d.own s = f.source d s := by
  unfold FileM.source
  rw [show d.own.blocks = d.blocks.map Blk.own from rfl, List.length_map, List.getElem?_map]
  cases d.blocks[s.block.toNat]? with
  | none => rfl
  | some b =>
    simp only [Option.map_some, own_results]
    rfl
theorem own_block (f : FileM) (d : Dgm) (b : Blk) : f.own.block d.own b.own = f.block d b := by
  have h1 : (fun s => !f.own.source d.own s) = fun s => !f.source d s := by
    funext s
    rw [own_source]
  unfold FileM.block
  rw [h1, show f.own.ds = f.ds.map Dgm.own from rfl, List.length_map]
  rfl
theorem own_diagram (f : FileM) (d : Dgm) : f.own.diagram d.own = f.diagram d := by
  have e1 : (fun o : OutM => (!o.port.right || !f.own.source d.own o.src)) = fun o => (!o.port.right || !f.source d o.src) := by
    funext o
    rw [own_source]
  have e2 : (d.own.blocks.any fun b => !f.own.block d.own b) = d.blocks.any fun b => !f.block d b := by
    rw [show d.own.blocks = d.blocks.map Blk.own from rfl, List.any_map]
    congr 1
    funext b
    exact congrArg (!·) (own_block f d b)
  unfold FileM.diagram
  rw [e1, e2, show d.own.blocks = d.blocks.map Blk.own from rfl, List.length_map]
  rfl
theorem own_right (f : FileM) : f.own.right = f.right := by
  have e2 : (f.own.ds.any fun d => !f.own.diagram d) = f.ds.any fun d => !f.diagram d := by
    rw [show f.own.ds = f.ds.map Dgm.own from rfl, List.any_map]
    congr 1
    funext d
    exact congrArg (!·) (own_diagram f d)
  unfold FileM.right
  rw [e2, show f.own.ds = f.ds.map Dgm.own from rfl, List.length_map]
theorem own_ok {f : FileM} (h : f.ok) : f.own.ok := by
  obtain ⟨h1, h2⟩ := h
  refine ⟨by simpa [FileM.own] using h1, fun d hd => ?_⟩
  obtain ⟨d', hd', rfl⟩ := List.mem_map.1 hd
  obtain ⟨k1, k2, k3, k4, k5⟩ := h2 d' hd'
  refine ⟨k1, k2, k3, by simpa [Dgm.own] using k4, fun b hb => ?_⟩
  obtain ⟨b', hb', rfl⟩ := List.mem_map.1 hb
  exact k5 b' hb'
end Go.Proofs.Tryd
