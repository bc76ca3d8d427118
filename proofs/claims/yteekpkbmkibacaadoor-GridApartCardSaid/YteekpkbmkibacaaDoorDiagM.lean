import Derived.Test.YteekpkbmkibacaaDoorTy
import Derived.Test.YteekpkbmkibacaaDoorEvIdx
/-! Diagrams as plain things. -/
namespace Go.Proofs.Tryd
set_option linter.unusedSimpArgs false
set_option linter.unusedVariables false
open Go Go.Proofs.Ev
abbrev i64 (n : Int) : AV := .val (.int .i64 n)
abbrev str (s : ByteArray) : AV := .val (.string s)
structure Src where
  block : Int
  port : Int
structure PortM where
  name : ByteArray
  type : Int
structure OutM where
  port : PortM
  src : Src
structure Blk where
  kind : Int
  op : Int
  sub : Int
  n : Int
  x : Int
  y : Int
  nl : Bool
  src : List Src
structure Dgm where
  name : ByteArray
  nlI : Bool
  ins : List PortM
  nlO : Bool
  outs : List OutM
  nlB : Bool
  blocks : List Blk
structure FileM where
  nl : Bool
  ds : List Dgm
def Src.enc (s : Src) : AV := .agg [i64 s.block, i64 s.port]
def PortM.enc (p : PortM) : AV := .agg [str p.name, i64 p.type]
def OutM.enc (o : OutM) : AV := .agg [str o.port.name, i64 o.port.type, i64 o.src.block, i64 o.src.port]
def Blk.enc (b : Blk) : AV := .agg [i64 b.kind, i64 b.op, i64 b.sub, i64 b.n, .val (.int .i32 b.x), .val (.int .i32 b.y), rowAV 2 b.nl (b.src.map Src.enc)]
def Dgm.enc (d : Dgm) : AV := .agg [str d.name, rowAV 2 d.nlI (d.ins.map PortM.enc), rowAV 4 d.nlO (d.outs.map OutM.enc), rowAV 7 d.nlB (d.blocks.map Blk.enc)]
def FileM.enc (f : FileM) : AV := .agg [rowAV 4 f.nl (f.ds.map Dgm.enc)]
def Blk.ok (b : Blk) : Prop := b.src.length ≤ maxLen
def Dgm.ok (d : Dgm) : Prop := d.name.size ≤ maxLen ∧ (d.ins.length ≤ maxLen ∧ ∀ p ∈ d.ins, p.name.size ≤ maxLen) ∧ (d.outs.length ≤ maxLen ∧ ∀ o ∈ d.outs, o.port.name.size ≤ maxLen) ∧ d.blocks.length ≤ maxLen ∧ ∀ b ∈ d.blocks, b.ok
def FileM.ok (f : FileM) : Prop := f.ds.length ≤ maxLen ∧ ∀ d ∈ f.ds, d.ok
def mostList : Int := 16777215
def mostName : Int := 65535
def FileM.results (f : FileM) (b : Blk) : Int :=
  if (decide (b.kind < 0) || decide (b.kind > 7)) then 0
  else if decide (b.kind < 7) then 1
  else if (decide (b.sub < 0) || decide (b.sub ≥ (f.ds.length : Int))) then 0
  else match f.ds[b.sub.toNat]? with
    | some d => d.outs.length
    | none => 0
def FileM.source (f : FileM) (d : Dgm) (s : Src) : Bool :=
  if (s.block != -1) then
    if (decide (s.block < 0) || decide (s.block ≥ (d.blocks.length : Int))) then false
    else match d.blocks[s.block.toNat]? with
      | some b => decide (s.port ≥ 0) && decide (s.port < f.results b)
      | none => false
  else decide (s.port ≥ 0) && decide (s.port < (d.ins.length : Int))
def kindsT : List (Int × Int × Int × Int) := [(0, 0, 9223372036854775807, 0), (0, 0, 1, 0), (0, 1, 0, 1), (1, 15, 0, 2), (0, 1, 0, 1), (0, 0, 0, 2), (0, 0, 0, 3), (0, 0, 0, -1)]
def encK (k : Int × Int × Int × Int) : AV := .agg [i64 k.1, i64 k.2.1, i64 k.2.2.1, i64 k.2.2.2]
abbrev GK : List (Nat × List AV) := [(1, [.sl 4 (kindsT.map encK)])]
def FileM.block (f : FileM) (d : Dgm) (b : Blk) : Bool :=
  if (decide (b.kind < 0) || decide (b.kind > 7)) then false
  else match kindsT[b.kind.toNat]? with
    | none => false
    | some k =>
      let parts := ((((decide (b.op ≥ k.1) && decide (b.op ≤ k.2.1)) && decide (b.n ≥ 0)) && decide (b.n ≤ k.2.2.1)) && ((b.sub == 0) || (b.kind == 7)))
      let parts := if (b.kind == 7) then ((parts && decide (b.sub ≥ 0)) && decide (b.sub < (f.ds.length : Int))) else parts
      let many := (((b.src.length : Int) == k.2.2.2) || ((k.2.2.2 == -1) && decide ((b.src.length : Int) ≤ 16777215)))
      (parts && many) && !(b.src.any fun s => !f.source d s)
def PortM.right (p : PortM) : Bool := ((decide ((p.name.size : Int) ≤ 65535) && decide (p.type ≥ 0)) && decide (p.type ≤ 1))
def FileM.diagram (f : FileM) (d : Dgm) : Bool :=
  let lists := (((decide ((d.ins.length : Int) ≤ 16777215) && decide ((d.outs.length : Int) ≤ 16777215)) && decide ((d.blocks.length : Int) ≤ 16777215)) && decide ((d.name.size : Int) ≤ 65535))
  let ins := !(d.ins.any fun p => !p.right)
  let outs := !(d.outs.any fun o => (!o.port.right || !f.source d o.src))
  ((lists && ins) && outs) && !(d.blocks.any fun b => !f.block d b)
def FileM.right (f : FileM) : Bool := decide ((f.ds.length : Int) ≤ 16777215) && !(f.ds.any fun d => !f.diagram d)
theorem src_get (s : Src) : aGet prog 26 s.enc.cells = some s.enc := by simp only [Src.enc, go_sem]
theorem port_get (s : PortM) : aGet prog 28 s.enc.cells = some s.enc := by simp only [PortM.enc, go_sem]
theorem out_get (s : OutM) : aGet prog 30 s.enc.cells = some s.enc := by simp only [OutM.enc, go_sem]
theorem blk_get (s : Blk) : aGet prog 72 s.enc.cells = some s.enc := by simp only [Blk.enc, go_sem]
theorem dgm_get (s : Dgm) : aGet prog 34 s.enc.cells = some s.enc := by simp only [Dgm.enc, go_sem]
theorem file_get (s : FileM) : aGet prog 37 s.enc.cells = some s.enc := by simp only [FileM.enc, go_sem]
theorem src_all (s : Src) : s.enc.cells.all AV.one = true := rfl
theorem port_all (s : PortM) : s.enc.cells.all AV.one = true := rfl
theorem out_all (s : OutM) : s.enc.cells.all AV.one = true := rfl
theorem blk_all (s : Blk) : s.enc.cells.all AV.one = true := by simp only [Blk.enc, go_sem]
theorem dgm_all (s : Dgm) : s.enc.cells.all AV.one = true := by simp only [Dgm.enc, go_sem]
theorem file_all (s : FileM) : s.enc.cells.all AV.one = true := by simp only [FileM.enc, go_sem]
theorem opnd_k1 (env : Env) : opnd GK env (.global 1) = .er [.sl 4 (kindsT.map encK)] := rfl
end Go.Proofs.Tryd
