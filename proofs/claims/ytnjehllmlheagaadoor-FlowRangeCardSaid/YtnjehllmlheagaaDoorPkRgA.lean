import Derived.Test.YtnjehllmlheagaaDoorRgTy
import Derived.Test.YtnjehllmlheagaaDoorRgEvIdx
import Derived.Test.YtnjehllmlheagaaDoorRgEvDraw4
import Derived.Test.YtnjehllmlheagaaDoorRgEvCut
import Derived.Test.YtnjehllmlheagaaDoorTie
import Derived.Test.YtnjehllmlheagaaDoorCards
import Derived.Test.YtnjehllmlheagaaDoorRgEvRow
import Derived.Test.YtnjehllmlheagaaDoorRgEvBulk
import Derived.Lib.SmallJoins
import Derived.Deep.DeepWitnessRowRef
import Derived.WideKeyElems2
import Derived.Maps.Range
import Derived.Test.YtnjehllmlheagaaDoorRgEvMore
import Derived.Test.YtnjehllmlheagaaDoorRgEvFrz
import Derived.Test.YtnjehllmlheagaaDoorRgEvDraw3
import Derived.Test.YtnjehllmlheagaaDoorRgEvList
import Derived.Test.YtnjehllmlheagaaDoorRgEvChain
import Derived.Test.YtnjehllmlheagaaDoorRgEvPair
import Derived.Test.YtnjehllmlheagaaDoorRgEvMove
import Derived.Test.YtnjehllmlheagaaDoorRgEvSlNil
import Derived.Test.YtnjehllmlheagaaDoorRgEvAny
/-! Diagrams as plain things. -/
namespace Go.Proofs.Tryd
set_option linter.unusedSimpArgs false
set_option linter.unusedVariables false
open Go Go.Proofs.Ev
abbrev i64 (n : Int) : AV := .val (.int .i64 n)
abbrev str (s : ByteArray) : AV := .val (.string s)
structure Src where
  block : Int
  port : Int
structure PortM where
  name : ByteArray
  type : Int
structure OutM where
  port : PortM
  src : Src
structure Blk where
  kind : Int
  op : Int
  sub : Int
  n : Int
  x : Int
  y : Int
  nl : Bool
  src : List Src
structure Dgm where
  name : ByteArray
  nlI : Bool
  ins : List PortM
  nlO : Bool
  outs : List OutM
  nlB : Bool
  blocks : List Blk
structure FileM where
  nl : Bool
  ds : List Dgm
def Src.enc (s : Src) : AV := .agg [i64 s.block, i64 s.port]
def PortM.enc (p : PortM) : AV := .agg [str p.name, i64 p.type]
def OutM.enc (o : OutM) : AV := .agg [str o.port.name, i64 o.port.type, i64 o.src.block, i64 o.src.port]
def Blk.enc (b : Blk) : AV := .agg [i64 b.kind, i64 b.op, i64 b.sub, i64 b.n, .val (.int .i32 b.x), .val (.int .i32 b.y), rowAV 2 b.nl (b.src.map Src.enc)]
def Dgm.enc (d : Dgm) : AV := .agg [str d.name, rowAV 2 d.nlI (d.ins.map PortM.enc), rowAV 4 d.nlO (d.outs.map OutM.enc), rowAV 7 d.nlB (d.blocks.map Blk.enc)]
def FileM.enc (f : FileM) : AV := .agg [rowAV 4 f.nl (f.ds.map Dgm.enc)]
def Blk.ok (b : Blk) : Prop := b.src.length ≤ maxLen
def Dgm.ok (d : Dgm) : Prop := d.name.size ≤ maxLen ∧ (d.ins.length ≤ maxLen ∧ ∀ p ∈ d.ins, p.name.size ≤ maxLen) ∧ (d.outs.length ≤ maxLen ∧ ∀ o ∈ d.outs, o.port.name.size ≤ maxLen) ∧ d.blocks.length ≤ maxLen ∧ ∀ b ∈ d.blocks, b.ok
def FileM.ok (f : FileM) : Prop := f.ds.length ≤ maxLen ∧ ∀ d ∈ f.ds, d.ok
def FileM.results (f : FileM) (b : Blk) : Int :=
  if (decide (b.kind < 0) || decide (b.kind > 7)) then 0
  else if decide (b.kind < 7) then 1
  else if (decide (b.sub < 0) || decide (b.sub ≥ (f.ds.length : Int))) then 0
  else match f.ds[b.sub.toNat]? with
    | some d => d.outs.length
    | none => 0
def FileM.source (f : FileM) (d : Dgm) (s : Src) : Bool :=
  if (s.block != -1) then
    if (decide (s.block < 0) || decide (s.block ≥ (d.blocks.length : Int))) then false
    else match d.blocks[s.block.toNat]? with
      | some b => decide (s.port ≥ 0) && decide (s.port < f.results b)
      | none => false
  else decide (s.port ≥ 0) && decide (s.port < (d.ins.length : Int))
def kindsT : List (Int × Int × Int × Int) := [(0, 0, 9223372036854775807, 0), (0, 0, 1, 0), (0, 1, 0, 1), (1, 15, 0, 2), (0, 1, 0, 1), (0, 0, 0, 2), (0, 0, 0, 3), (0, 0, 0, -1)]
def encK (k : Int × Int × Int × Int) : AV := .agg [i64 k.1, i64 k.2.1, i64 k.2.2.1, i64 k.2.2.2]
def rulesT : List (Int × Int) := [(1, 1), (1, 1), (1, 1), (1, 1), (2, 1), (2, 1), (0, 1), (0, 1), (0, 1), (0, 1), (0, 0), (0, 0), (0, 0), (0, 0), (0, 0)]
def encR (k : Int × Int) : AV := .agg [i64 k.1, i64 k.2]
/-- What the package variables are: the kinds of blocks, the rules of ops, the words; and more. -/
abbrev GK (w : AV) (G : List (Nat × List AV)) : List (Nat × List AV) := (0, [.sl 4 (kindsT.map encK)]) :: (1, [.sl 2 (rulesT.map encR)]) :: (2, [w]) :: G
variable {w : AV} {G : List (Nat × List AV)}
def FileM.block (f : FileM) (d : Dgm) (b : Blk) : Bool :=
  if (decide (b.kind < 0) || decide (b.kind > 7)) then false
  else match kindsT[b.kind.toNat]? with
    | none => false
    | some k =>
      let parts := ((((decide (b.op ≥ k.1) && decide (b.op ≤ k.2.1)) && decide (b.n ≥ 0)) && decide (b.n ≤ k.2.2.1)) && ((b.sub == 0) || (b.kind == 7)))
      let parts := if (b.kind == 7) then ((parts && decide (b.sub ≥ 0)) && decide (b.sub < (f.ds.length : Int))) else parts
      let many := (((b.src.length : Int) == k.2.2.2) || ((k.2.2.2 == -1) && decide ((b.src.length : Int) ≤ 16777215)))
      (parts && many) && !(b.src.any fun s => !f.source d s)
def PortM.right (p : PortM) : Bool := ((decide ((p.name.size : Int) ≤ 65535) && decide (p.type ≥ 0)) && decide (p.type ≤ 1))
def FileM.diagram (f : FileM) (d : Dgm) : Bool :=
  let lists := (((decide ((d.ins.length : Int) ≤ 16777215) && decide ((d.outs.length : Int) ≤ 16777215)) && decide ((d.blocks.length : Int) ≤ 16777215)) && decide ((d.name.size : Int) ≤ 65535))
  let ins := !(d.ins.any fun p => !p.right)
  let outs := !(d.outs.any fun o => (!o.port.right || !f.source d o.src))
  ((lists && ins) && outs) && !(d.blocks.any fun b => !f.block d b)
def FileM.right (f : FileM) : Bool := decide ((f.ds.length : Int) ≤ 16777215) && !(f.ds.any fun d => !f.diagram d)
theorem src_get (s : Src) : aGet prog 26 s.enc.cells = some s.enc := by simp only [Src.enc, go_sem]
theorem port_get (s : PortM) : aGet prog 24 s.enc.cells = some s.enc := by simp only [PortM.enc, go_sem]
theorem out_get (s : OutM) : aGet prog 28 s.enc.cells = some s.enc := by simp only [OutM.enc, go_sem]
theorem blk_get (s : Blk) : aGet prog 32 s.enc.cells = some s.enc := by simp only [Blk.enc, go_sem]
theorem dgm_get (s : Dgm) : aGet prog 36 s.enc.cells = some s.enc := by simp only [Dgm.enc, go_sem]
theorem file_get (s : FileM) : aGet prog 39 s.enc.cells = some s.enc := by simp only [FileM.enc, go_sem]
theorem src_all (s : Src) : s.enc.cells.all AV.one = true := rfl
theorem port_all (s : PortM) : s.enc.cells.all AV.one = true := rfl
theorem out_all (s : OutM) : s.enc.cells.all AV.one = true := rfl
theorem blk_all (s : Blk) : s.enc.cells.all AV.one = true := by simp only [Blk.enc, go_sem]
theorem dgm_all (s : Dgm) : s.enc.cells.all AV.one = true := by simp only [Dgm.enc, go_sem]
theorem file_all (s : FileM) : s.enc.cells.all AV.one = true := by simp only [FileM.enc, go_sem]
theorem opnd_k1 (env : Env) : opnd (GK w G) env (.global 0) = .er [.sl 4 (kindsT.map encK)] := rfl
theorem opnd_k2 (env : Env) : opnd (GK w G) env (.global 1) = .er [.sl 2 (rulesT.map encR)] := rfl
end Go.Proofs.Tryd
/-! Names. -/
namespace Go.Proofs.Tryd
set_option linter.unusedSimpArgs false
set_option linter.unusedVariables false
open Go Go.Proofs.Ev
namespace A
abbrev bool (b : Bool) : AV := .val (.bool b)
variable {Γ : List (Nat × List AV)}
def words : List ByteArray := [⟨#[97, 110, 100]⟩, ⟨#[98, 111, 111, 108]⟩, ⟨#[99, 111, 110, 115, 116]⟩, ⟨#[100, 105, 118]⟩, ⟨#[101, 108, 115, 101]⟩, ⟨#[102, 97, 108, 115, 101]⟩, ⟨#[105, 102]⟩, ⟨#[105, 110, 116]⟩, ⟨#[108, 101, 116]⟩, ⟨#[109, 111, 100]⟩, ⟨#[110, 111, 100, 101]⟩, ⟨#[110, 111, 116]⟩, ⟨#[111, 114]⟩, ⟨#[112, 114, 101]⟩, ⟨#[114, 101, 116, 117, 114, 110, 115]⟩, ⟨#[116, 101, 108]⟩, ⟨#[116, 104, 101, 110]⟩, ⟨#[116, 114, 117, 101]⟩, ⟨#[118, 97, 114]⟩, ⟨#[120, 111, 114]⟩]
def wordM (s : ByteArray) : Bool := (findS words s).isSome
/-- The table of words stands there. -/
def Words (Γ : List (Nat × List AV)) : Prop := ∃ ks : List ByteArray, opnd Γ [] (.global 2) = .er [.mapf (ks.map Value.string) (List.replicate ks.length (bool true))] ∧ ∀ s, (findS ks s).isSome = wordM s
def letter (c : UInt8) : Bool := (((c.toNat : Int) == 95) || (decide ((c.toNat : Int) ≥ 97) && decide ((c.toNat : Int) ≤ 122))) || (decide ((c.toNat : Int) ≥ 65) && decide ((c.toNat : Int) ≤ 90))
def digit (c : UInt8) : Bool := decide ((c.toNat : Int) ≥ 48) && decide ((c.toNat : Int) ≤ 57)
def okFrom : Nat → List UInt8 → Bool
  | _, [] => true
  | i, c :: l => (letter c || (decide (0 < i) && digit c)) && okFrom (i + 1) l
def nameM (s : ByteArray) : Bool := (!(decide (s = ⟨#[]⟩) || decide ((s.size : Int) > 60) || wordM s)) && okFrom 0 s.data.toList
theorem okFrom_drop {l : List UInt8} {i : Nat} (h : i < l.length) : okFrom i (l.drop i) = ((letter l[i] || (decide (0 < i) && digit l[i])) && okFrom (i + 1) (l.drop (i + 1))) := by
  rw [List.drop_eq_getElem_cons h]
  rfl
theorem ba_len (s : ByteArray) : s.data.toList.length = s.size := rfl
theorem lk_words (ks : List ByteArray) (T : TypeId) {et : TypeId} (hT : prog.underlying T = some (.map 9 et)) (hz : aZero prog et = some (bool false)) (σ : Sto) (s : ByteArray) : aLookup prog σ T false (.mapf (ks.map Value.string) (List.replicate ks.length (bool true))) (str s) = some (bool (findS ks s).isSome) := by
  have hp : mapParts σ (.mapf (ks.map Value.string) (List.replicate ks.length (bool true))) = some (ks.map Value.string, List.replicate ks.length (bool true)) := rfl
  have hk : prog.underlying 9 = some .string := by kernel_rfl
  simp only [aLookup, hT, hp, hk, plainK, if_true, aFindK_str, hz]
  cases h : findS ks s with
  | none => rfl
  | some i =>
    have hi := (findS_lt h).1
    simp only [List.getElem?_replicate, Option.map, Bool.false_eq_true, if_false, Option.isSome, Nat.add_zero]
    rw [if_pos hi]


set_option maxRecDepth 100000 in
theorem word_calls (hΓ : Words Γ) (s : ByteArray) : APure prog Γ 89 [.val (.string s)] (.val (.bool (wordM s))) := by
  refine APure.of func89 rfl fun σ => ?_
  simp only [ntmps89, List.length_cons, List.length_nil, Nat.reduceAdd, Nat.reduceSub, List.replicate_succ, List.replicate_zero, List.cons_append, List.nil_append]
  obtain ⟨ks, hΓ, hks⟩ := hΓ
  refine AW.regl false [2] (by rfl) fun K1 hK1 => ?_ -- region 0
  simp only [go_sem, Nat.reduceAdd, Nat.reduceEqDiff, Nat.reduceLeDiff, true_and, hΓ]
  refine hK1 _ _ ?_; try clear hK1 K1
  conv => enter [5]; simp only [setL_cons, setL_nil, List.set_cons_zero, List.set_cons_succ]
  refine AW.regl false [2] (by rfl) fun K2 hK2 => ?_ -- region 1
  simp only [go_sem, Nat.reduceAdd, Nat.reduceEqDiff, Nat.reduceLeDiff, true_and, hΓ, lk_words ks 146 underlying146 zero4]
  refine hK2 _ _ ?_; try clear hK2 K2
  conv => enter [5]; simp only [setL_cons, setL_nil, List.set_cons_zero, List.set_cons_succ]
  refine AW.ret ⟨.inr rfl, _, rfl, by simp, ?_⟩ -- return 1
  rw [hks s]
  exact .keep rfl




set_option maxRecDepth 100000 in
theorem name_calls (hΓ : Words Γ) (s : ByteArray) (hs : s.size ≤ 1000000000) : APure prog Γ 75 [.val (.string s)] (.val (.bool (nameM s))) := by
  refine APure.of func75 rfl fun σ => ?_
  simp only [ntmps75, List.length_cons, List.length_nil, Nat.reduceAdd, Nat.reduceSub, List.replicate_succ, List.replicate_zero, List.cons_append, List.nil_append]
  refine AW.regl false [2] (by rfl) fun K1 hK1 => ?_ -- region 0
  simp only [go_sem, Nat.reduceAdd, Nat.reduceEqDiff, Nat.reduceLeDiff, true_and, List.length_map, len_row, ba_beqL, byteAV]
  refine hK1 _ _ ?_; try clear hK1 K1
  conv => enter [5]; simp only [setL_cons, setL_nil, List.set_cons_zero, List.set_cons_succ]
  refine AW.seq_k fun K2 hK2 => ?_
  refine AW.regtf false 16 (.val (.bool (((decide (s = ⟨#[]⟩)) || (decide (((s.size : Nat) : Int) > 60))) || (wordM s)))) (by rfl) ?_ ?_ -- region 1
  · skip
    cases h7 : ((decide (s = ⟨#[]⟩)))
    · skip
      cases h11 : ((decide (((s.size : Nat) : Int) > 60)))
      · skip
        simp only [go_sem, Nat.reduceAdd, Nat.reduceEqDiff, Nat.reduceLeDiff, true_and, List.length_map, len_row, ba_beqL, byteAV, h7, h11]
        refine sC.of en89 ((word_calls hΓ s).on _).here (by rfl) ?_
        simp only [go_sem, Nat.reduceAdd, Nat.reduceEqDiff, Nat.reduceLeDiff, true_and, List.length_map, len_row, ba_beqL, byteAV, h7, h11]
        try simp [upd_at, h7, h11, List.length_map, len_row, ba_beqL, byteAV]
      · skip
        simp only [go_sem, Nat.reduceAdd, Nat.reduceEqDiff, Nat.reduceLeDiff, true_and, List.length_map, len_row, ba_beqL, byteAV, h7, h11]
        try simp [upd_at, h7, h11, List.length_map, len_row, ba_beqL, byteAV]
    · skip
      simp only [go_sem, Nat.reduceAdd, Nat.reduceEqDiff, Nat.reduceLeDiff, true_and, List.length_map, len_row, ba_beqL, byteAV, h7]
      try simp [upd_at, h7, List.length_map, len_row, ba_beqL, byteAV]
  conv => enter [5]; simp only [List.set_cons_zero, List.set_cons_succ]
  refine AW.cond rfl (fun hc16 => ?_) (fun hc16 => ?_)
  · skip
    refine AW.regl false [2] (by rfl) fun K4 hK4 => ?_ -- region 2
    simp only [go_sem, Nat.reduceAdd, Nat.reduceEqDiff, Nat.reduceLeDiff, true_and, List.length_map, len_row, ba_beqL, byteAV]
    refine hK4 _ _ ?_; try clear hK4 K4
    conv => enter [5]; simp only [setL_cons, setL_nil, List.set_cons_zero, List.set_cons_succ]
    refine AW.ret ⟨.inr rfl, _, rfl, by simp, ?_⟩ -- return 1
    refine frzB ?_
    rw [nameM, hc16]
    rfl
  · skip
    refine AW.skip ?_
    refine hK2 _ _ ?_; try clear hK2 K2
    refine AW.seq_k fun K5 hK5 => ?_
    have hcv := fun σ => cvb9_82 σ s (by omega)
    refine AW.regl false [18, 19, 20] (by rfl) fun K6 hK6 => ?_ -- region 3
    simp only [go_sem, Nat.reduceAdd, Nat.reduceEqDiff, Nat.reduceLeDiff, true_and, List.length_map, len_row, ba_beqL, byteAV, hcv]
    refine hK6 _ _ ?_; try clear hK6 K6
    conv => enter [5]; simp only [setL_cons, setL_nil, List.set_cons_zero, List.set_cons_succ]
    refine AW.block ?_
    refine AW.loop_wk (α := Nat) (fun i => [.any, .any, .any, .any, .any, .any, .any, .any, .any, .any, .any, .any, .any, .any, .any, .any, .any, .any, (rowAV 1 false (s.data.toList.map byteAV)), (.val (.int .i64 ((s.data.toList.length : Nat) : Int))), (.val (.int .i64 ((i : Nat) : Int))), .any, .any, .any, .any, .any, .any, .any, .any, .any, .any, .any, .any, .any, .any, .any, .any, .any, .any, .any, .any, .any, .any, .any, .any, .any, .any, .any, .any, .any, .any, .any, .any, .any, .any, .any, .any, .any]) (fun i => σ) (fun i => s.data.toList.length - i) (fun i => i ≤ s.data.toList.length ∧ okFrom 0 s.data.toList = okFrom i (s.data.toList.drop i)) 0 ?_ ?_
    · exact ⟨⟨Nat.zero_le _, rfl⟩, by simp [Wk], rfl⟩
    · rintro i ⟨hi, hit⟩
      refine AW.regl false [21] (by rfl) fun K7 hK7 => ?_ -- region 4
      simp only [go_sem, Nat.reduceAdd, Nat.reduceEqDiff, Nat.reduceLeDiff, true_and, List.length_map, len_row, ba_beqL, byteAV]
      refine hK7 _ _ ?_; try clear hK7 K7
      conv => enter [5]; simp only [setL_cons, setL_nil, List.set_cons_zero, List.set_cons_succ]
      refine AW.seq_k fun K8 hK8 => ?_
      refine AW.cond rfl (fun hc21 => ?_) (fun hc21 => ?_)
      · skip
        have hi1 : i < s.data.toList.length := by simpa using hc21
        obtain ⟨b, hb⟩ : ∃ z, z = s.data.toList[i] := ⟨_, rfl⟩
        have hx : (s.data.toList.map byteAV)[i]? = some (byteAV b) := by rw [hb, List.getElem?_map, List.getElem?_eq_getElem hi1]; rfl
        refine AW.skip ?_
        refine hK8 _ _ ?_; try clear hK8 K8
        refine AW.seq_k fun K9 hK9 => ?_
        refine AW.block ?_
        refine AW.regl false [3, 4] (by rfl) fun K10 hK10 => ?_ -- region 5
        simp only [go_sem, Nat.reduceAdd, Nat.reduceEqDiff, Nat.reduceLeDiff, true_and, List.length_map, len_row, ba_beqL, byteAV, at_row hx]
        refine hK10 _ _ ?_; try clear hK10 K10
        conv => enter [5]; simp only [setL_cons, setL_nil, List.set_cons_zero, List.set_cons_succ]
        refine AW.regtf false 5 (.val (.bool (letter b))) (by rfl) ?_ ?_ -- region 6
        · skip
          cases h26 : ((decide (((b.toNat : Nat) : Int) ≥ 97)))
          · skip
            cases h33 : ((decide (((b.toNat : Nat) : Int) ≥ 65)))
            · skip
              simp only [go_sem, Nat.reduceAdd, Nat.reduceEqDiff, Nat.reduceLeDiff, true_and, List.length_map, len_row, ba_beqL, byteAV, letter, h26, h33]
              try simp [upd_at, h26, h33, List.length_map, len_row, ba_beqL, byteAV, letter]
            · skip
              cases h36 : ((decide (((b.toNat : Nat) : Int) ≤ 90)))
              · skip
                simp only [go_sem, Nat.reduceAdd, Nat.reduceEqDiff, Nat.reduceLeDiff, true_and, List.length_map, len_row, ba_beqL, byteAV, letter, h26, h33, h36]
                try simp [upd_at, h26, h33, h36, List.length_map, len_row, ba_beqL, byteAV, letter]
              · skip
                simp only [go_sem, Nat.reduceAdd, Nat.reduceEqDiff, Nat.reduceLeDiff, true_and, List.length_map, len_row, ba_beqL, byteAV, letter, h26, h33, h36]
                try simp [upd_at, h26, h33, h36, List.length_map, len_row, ba_beqL, byteAV, letter]
          · skip
            cases h29 : ((decide (((b.toNat : Nat) : Int) ≤ 122)))
            · skip
              cases h33 : ((decide (((b.toNat : Nat) : Int) ≥ 65)))
              · skip
                simp only [go_sem, Nat.reduceAdd, Nat.reduceEqDiff, Nat.reduceLeDiff, true_and, List.length_map, len_row, ba_beqL, byteAV, letter, h26, h29, h33]
                try simp [upd_at, h26, h29, h33, List.length_map, len_row, ba_beqL, byteAV, letter]
              · skip
                cases h36 : ((decide (((b.toNat : Nat) : Int) ≤ 90)))
                · skip
                  simp only [go_sem, Nat.reduceAdd, Nat.reduceEqDiff, Nat.reduceLeDiff, true_and, List.length_map, len_row, ba_beqL, byteAV, letter, h26, h29, h33, h36]
                  try simp [upd_at, h26, h29, h33, h36, List.length_map, len_row, ba_beqL, byteAV, letter]
                · skip
                  simp only [go_sem, Nat.reduceAdd, Nat.reduceEqDiff, Nat.reduceLeDiff, true_and, List.length_map, len_row, ba_beqL, byteAV, letter, h26, h29, h33, h36]
                  try simp [upd_at, h26, h29, h33, h36, List.length_map, len_row, ba_beqL, byteAV, letter]
            · skip
              simp only [go_sem, Nat.reduceAdd, Nat.reduceEqDiff, Nat.reduceLeDiff, true_and, List.length_map, len_row, ba_beqL, byteAV, letter, h26, h29]
              try simp [upd_at, h26, h29, List.length_map, len_row, ba_beqL, byteAV, letter]
        conv => enter [5]; simp only [List.set_cons_zero, List.set_cons_succ]
        refine AW.regtf false 56 (.val (.bool (!(letter b) && ((decide (i = 0) || !digit b))))) (by rfl) ?_ ?_ -- region 7
        · skip
          cases h5 : ((letter b))
          · skip
            cases h47 : ((((i : Nat) : Int) == 0))
            · skip
              cases h50 : ((decide (((b.toNat : Nat) : Int) < 48)))
              · skip
                simp only [go_sem, Nat.reduceAdd, Nat.reduceEqDiff, Nat.reduceLeDiff, true_and, List.length_map, len_row, ba_beqL, byteAV, digit, h5, h47, h50]
                try simp [upd_at, h5, h47, h50, List.length_map, len_row, ba_beqL, byteAV, digit]
                all_goals try (simp at *)
                all_goals try omega
                all_goals try (simp [show ¬ (i = 0) by omega])
                all_goals try omega
                all_goals try (rw [Bool.eq_iff_iff]; simp; omega)
              · skip
                simp only [go_sem, Nat.reduceAdd, Nat.reduceEqDiff, Nat.reduceLeDiff, true_and, List.length_map, len_row, ba_beqL, byteAV, digit, h5, h47, h50]
                try simp [upd_at, h5, h47, h50, List.length_map, len_row, ba_beqL, byteAV, digit]
                all_goals try (simp at *)
                all_goals try omega
                all_goals try (simp [show ¬ (i = 0) by omega])
                all_goals try omega
                all_goals try (rw [Bool.eq_iff_iff]; simp; omega)
            · skip
              simp only [go_sem, Nat.reduceAdd, Nat.reduceEqDiff, Nat.reduceLeDiff, true_and, List.length_map, len_row, ba_beqL, byteAV, digit, h5, h47]
              try simp [upd_at, h5, h47, List.length_map, len_row, ba_beqL, byteAV, digit]
              all_goals try (simp at *)
              all_goals try omega
              all_goals try (simp [show ¬ (i = 0) by omega])
              all_goals try omega
              all_goals try (rw [Bool.eq_iff_iff]; simp; omega)
          · skip
            simp only [go_sem, Nat.reduceAdd, Nat.reduceEqDiff, Nat.reduceLeDiff, true_and, List.length_map, len_row, ba_beqL, byteAV, digit, h5]
            try simp [upd_at, h5, List.length_map, len_row, ba_beqL, byteAV, digit]
            all_goals try (simp at *)
            all_goals try omega
            all_goals try (simp [show ¬ (i = 0) by omega])
            all_goals try omega
            all_goals try (rw [Bool.eq_iff_iff]; simp; omega)
        conv => enter [5]; simp only [List.set_cons_zero, List.set_cons_succ]
        refine AW.cond rfl (fun hc56 => ?_) (fun hc56 => ?_)
        · skip
          have hok : (letter b || (decide (0 < i) && digit b)) = false := by
            cases h1 : letter b <;> cases h2 : digit b <;> simp [h1, h2] at hc56 ⊢ <;> omega
          refine AW.regl false [2] (by rfl) fun K13 hK13 => ?_ -- region 8
          simp only [go_sem, Nat.reduceAdd, Nat.reduceEqDiff, Nat.reduceLeDiff, true_and, List.length_map, len_row, ba_beqL, byteAV]
          refine hK13 _ _ ?_; try clear hK13 K13
          conv => enter [5]; simp only [setL_cons, setL_nil, List.set_cons_zero, List.set_cons_succ]
          refine AW.ret ⟨.inr rfl, _, rfl, by simp, ?_⟩ -- return 2
          refine frzB ?_
          rw [nameM, hit, okFrom_drop hi1, ← hb, hok]
          simp
        · skip
          have hok : (letter b || (decide (0 < i) && digit b)) = true := by
            cases h1 : letter b <;> cases h2 : digit b <;> simp [h1, h2] at hc56 ⊢ <;> omega
          refine AW.skip ?_
          refine hK9 _ _ ?_; try clear hK9 K9
          refine AW.lastl false [20] (by rfl) fun K hK => ?_ -- region 9
          simp only [go_sem, Nat.reduceAdd, Nat.reduceEqDiff, Nat.reduceLeDiff, true_and, List.length_map, len_row, ba_beqL, byteAV]
          refine hK _ _ fun env' hw => ?_
          simp only [setL_cons, setL_nil, List.set_cons_zero, List.set_cons_succ] at hw
          refine ⟨i + 1, by omega, ⟨by omega, by rw [hit, okFrom_drop hi1, ← hb, hok]; rfl⟩, ?_, rfl⟩
          refine hw.trans ?_
          simp [Wk, wrap_succ hi1 (by rw [maxLen_eq, ba_len]; omega)]
          try omega
      · skip
        have hi1 : i = s.data.toList.length := by
          have : ¬ i < s.data.toList.length := by simpa using hc21
          omega
        refine AW.exit ?_
        refine hK5 _ _ ?_; try clear hK5 K5
        refine AW.regl false [2] (by rfl) fun K14 hK14 => ?_ -- region 10
        simp only [go_sem, Nat.reduceAdd, Nat.reduceEqDiff, Nat.reduceLeDiff, true_and, List.length_map, len_row, ba_beqL, byteAV]
        refine hK14 _ _ ?_; try clear hK14 K14
        conv => enter [5]; simp only [setL_cons, setL_nil, List.set_cons_zero, List.set_cons_succ]
        refine AW.ret ⟨.inr rfl, _, rfl, by simp, ?_⟩ -- return 3
        refine frzB ?_
        rw [nameM, hit, hi1, List.drop_length, hc16]
        rfl

end A
end Go.Proofs.Tryd
/-! What the rows of flow's laws share: the package variables, a world that holds them. -/
namespace Go.Proofs.YtnjehllmlheagaaDoor
set_option linter.unusedSimpArgs false
set_option linter.unusedVariables false
open Go Go.ChangeShapes Go.WideShapes Go.ChangeAt Go.RowKit Go.Proofs.Ev Go.Proofs.Tryd
namespace Fr
theorem own : ownKnob Tryd.prog.godebug = none := by kernel_rfl
theorem laidOut : laidOutB Tryd.prog = true := by kernel_rfl
theorem gKinds : Tryd.prog.globalNamed "shuttlecock/diag.kinds" = some 0 := by kernel_rfl
theorem gKindsType : (Tryd.prog.globals[0]?).map (·.type) = some 159 := by kernel_rfl
theorem gRules : Tryd.prog.globalNamed "shuttlecock/flow.rules" = some 1 := by kernel_rfl
theorem gRulesType : (Tryd.prog.globals[1]?).map (·.type) = some 163 := by kernel_rfl
theorem gWords : Tryd.prog.globalNamed "shuttlecock/ast.words" = some 2 := by kernel_rfl
theorem gWordsType : (Tryd.prog.globals[2]?).map (·.type) = some 146 := by kernel_rfl
theorem cells3 : Tryd.prog.cellsOf 3 = 1 := by kernel_rfl
theorem cells2 : Tryd.prog.cellsOf 2 = 1 := by kernel_rfl
theorem cells158 : Tryd.prog.cellsOf 158 = 4 := by kernel_rfl
theorem cells162 : Tryd.prog.cellsOf 162 = 2 := by kernel_rfl
/-- One entry of kinds, as it reads. -/
def dtK (k : Int × Int × Int × Int) : DataW Unit := .agg [.lit (.int .i64 k.1), .lit (.int .i64 k.2.1), .lit (.int .i64 k.2.2.1), .lit (.int .i64 k.2.2.2)]
theorem slot1 {α : Type} {cs : List α} {v : α} {i : Nat} (h : (cs.drop i).take 1 = [v]) : cs[i]? = some v := by
  have := congrArg (·[0]?) h
  simpa [List.getElem?_take, List.getElem?_drop] using this
theorem list4 {α : Type} {cs : List α} (h : cs.length = 4) : ∃ a b c d, cs = [a, b, c, d] := by
  match cs, h with
  | [a, b, c, d], _ => exact ⟨a, b, c, d, rfl⟩
theorem dec_k {W : World} {base : Nat} {sp : Nat → Bool} {held : Bool} {n : Nat} {cs : List Value} {x : DataW Unit × List MemPlace} {a : Int × Int × Int × Int} (h : DataW.trod (fun _ => ()) Tryd.prog W base sp held n 158 cs = some x) (hx : x.1 = dtK a) : CellsOf W (Tryd.encK a).cells cs := by
  obtain ⟨y0, y1, y2, y3, m, rfl, hl, h0, h1, h2, h3⟩ := Go.Joins.trod_struct4 Tryd.underlying158 h
  simp only [dtK, DataW.agg.injEq, List.cons.injEq, and_true] at hx
  obtain ⟨e0, e1, e2, e3⟩ := hx
  obtain ⟨n0, c0, d0, _⟩ := DataW.trod_int Tryd.underlying3 h0
  obtain ⟨n1, c1, d1, _⟩ := DataW.trod_int Tryd.underlying3 h1
  obtain ⟨n2, c2, d2, _⟩ := DataW.trod_int Tryd.underlying2 h2
  obtain ⟨n3, c3, d3, _⟩ := DataW.trod_int Tryd.underlying3 h3
  subst d0 d1 d2 d3
  simp only [DataW.lit.injEq, Lit.int.injEq, true_and] at e0 e1 e2 e3
  change (cs.drop 0).take (Tryd.prog.cellsOf 3) = _ at c0
  rw [cells3] at c0
  have k0 := slot1 c0
  change (cs.drop 1).take (Tryd.prog.cellsOf 3) = _ at c1
  rw [cells3] at c1
  have k1 := slot1 c1
  change (cs.drop 2).take (Tryd.prog.cellsOf 2) = _ at c2
  rw [cells2] at c2
  have k2 := slot1 c2
  change (cs.drop 3).take (Tryd.prog.cellsOf 3) = _ at c3
  rw [cells3] at c3
  have k3 := slot1 c3
  rw [cells158] at hl
  obtain ⟨v0, v1, v2, v3, rfl⟩ := list4 hl
  clear h h0 h1 h2 h3 c0 c1 c2 c3
  simp only [List.getElem?_cons_zero, List.getElem?_cons_succ, Option.some.injEq] at k0 k1 k2 k3
  subst k0 k1 k2 k3 e0 e1 e2 e3
  exact ⟨⟨rfl, rfl, rfl, rfl, trivial⟩, fun v hv => by simp at hv; rcases hv with rfl | rfl | rfl | rfl <;> rfl⟩
def dtR (k : Int × Int) : DataW Unit := .agg [.lit (.int .i64 k.1), .lit (.int .i64 k.2)]
theorem list2 {α : Type} {cs : List α} (h : cs.length = 2) : ∃ a b, cs = [a, b] := by
  match cs, h with
  | [a, b], _ => exact ⟨a, b, rfl⟩
theorem dec_r {W : World} {base : Nat} {sp : Nat → Bool} {held : Bool} {n : Nat} {cs : List Value} {x : DataW Unit × List MemPlace} {a : Int × Int} (h : DataW.trod (fun _ => ()) Tryd.prog W base sp held n 162 cs = some x) (hx : x.1 = dtR a) : CellsOf W (encR a).cells cs := by
  obtain ⟨y0, y1, m, rfl, hl, h0, h1⟩ := trod_struct2 Tryd.underlying162 h
  simp only [dtR, DataW.agg.injEq, List.cons.injEq, and_true] at hx
  obtain ⟨e0, e1⟩ := hx
  obtain ⟨n0, c0, d0, _⟩ := DataW.trod_int Tryd.underlying3 h0
  obtain ⟨n1, c1, d1, _⟩ := DataW.trod_int Tryd.underlying3 h1
  subst d0 d1
  simp only [DataW.lit.injEq, Lit.int.injEq, true_and] at e0 e1
  change (cs.drop 0).take (Tryd.prog.cellsOf 3) = _ at c0
  rw [cells3] at c0
  have k0 := slot1 c0
  change (cs.drop 1).take (Tryd.prog.cellsOf 3) = _ at c1
  rw [cells3] at c1
  have k1 := slot1 c1
  rw [cells162] at hl
  obtain ⟨v0, v1, rfl⟩ := list2 hl
  clear h h0 h1 c0 c1
  simp only [List.getElem?_cons_zero, List.getElem?_cons_succ, Option.some.injEq] at k0 k1
  subst k0 k1 e0 e1
  exact ⟨⟨rfl, rfl, trivial⟩, fun v hv => by simp at hv; rcases hv with rfl | rfl <;> rfl⟩
theorem findS_mem_iff : ∀ (l : List ByteArray) (s : ByteArray), (findS l s).isSome = true ↔ s ∈ l
  | [], s => by simp [findS]
  | a :: l, s => by
    have := findS_mem_iff l s
    simp only [findS, List.mem_cons]
    split
    · rename_i h
      simp [h]
    · rename_i h
      simp [h, this]
theorem bytes_list {s t : ByteArray} (h : s.data.toList = t.data.toList) : s = t := by
  apply Go.WideShapes.bytes_inj
  exact h
/-- The entries of the list that the text lays. -/
def laidL : List (Lit × DataW Unit) := A.words.map fun s => (.string s.data.toList, .lit (.bool true))
theorem laidL_eq : (Rows.laid_shuttlecock_ast_words : DataW Unit) = .map laidL := by kernel_rfl
set_option maxRecDepth 100000 in
theorem keyOf_str {v : Value} {key : Lit} (h : keyOf Tryd.prog 9 v = some key) : ∃ s : ByteArray, v = .string s ∧ key = .string s.data.toList := by
  unfold keyOf at h
  rw [Tryd.underlying9] at h
  simp only [mapKey, Tryd.underlying9] at h
  cases v with
  | string s =>
    simp only at h
    split at h
    · exact ⟨s, rfl, (Option.some.inj h).symm⟩
    · cases h
  | _ => cases h
theorem mapM_pairs {α β : Type} {f : α → Option β} : ∀ {l : List α} {r : List β}, l.mapM f = some r → Pairs (fun a b => f a = some b) l r
  | [], r, h => by
    simp at h
    subst h
    exact .nil
  | a :: l, r, h => by
    simp only [List.mapM_cons, Option.bind_eq_bind, Option.bind_eq_some_iff] at h
    obtain ⟨b, h1, r', h2, h3⟩ := h
    simp at h3
    subst h3
    exact .cons h1 (mapM_pairs h2)
set_option maxRecDepth 100000 in
theorem entries_of {W : World} {base : Nat} {sp : Nat → Bool} {held : Bool} {n : Nat} : ∀ {es : List MapEntry} {ents : List ((Lit × DataW Unit) × List MemPlace)},
    Pairs (fun (x : MapEntry) y => ((keyOf Tryd.prog 9 x.key).bind fun key => if x.val.formed Tryd.prog 4 then (DataW.trod (fun _ => ()) Tryd.prog W base sp held n 4 x.val.cells.toList).map fun y => ((key, y.1), y.2) else none) = some y) es ents →
    (∀ p ∈ ents.map (·.1), p.2 = .lit (.bool true)) → ∃ ks : List ByteArray, es.map (·.key) = ks.map Value.string ∧ es.map (·.val) = List.replicate ks.length (.bool true) ∧ ents.map (·.1.1) = ks.map fun s => .string s.data.toList
  | [], _, .nil, _ => ⟨[], rfl, rfl, rfl⟩
  | x :: es, y :: ents, .cons h hs, hv => by
    obtain ⟨ks, k1, k2, k3⟩ := entries_of hs fun p hp => hv p (by simp only [List.map_cons]; exact List.mem_cons_of_mem _ hp)
    obtain ⟨key, h1, h2⟩ := Option.bind_eq_some_iff.1 h
    split at h2 <;> try (simp at h2; done)
    rename_i hform
    obtain ⟨z, h3, h4⟩ := Option.map_eq_some_iff.1 h2
    obtain ⟨s, e1, e2⟩ := keyOf_str h1
    have hb := hv y.1 (by simp)
    rw [← h4] at hb
    simp only at hb
    obtain ⟨b, hc, hz⟩ := DataW.trod_bool Tryd.underlying4 h3
    rw [hz] at hb
    simp only [DataW.lit.injEq, Lit.bool.injEq] at hb
    rw [hb] at hc
    have hval : x.val = .bool true := by
      unfold Value.formed at hform
      rw [Tryd.underlying4] at hform
      cases hx : x.val with
      | bool c =>
        rw [hx] at hc
        simpa [Value.cells] using hc
      | agg cs =>
        rw [hx] at hform
        cases hform
      | _ =>
        rw [hx] at hc
        simp [Value.cells] at hc
    refine ⟨s :: ks, by rw [List.map_cons, List.map_cons, k1, e1], by rw [List.map_cons, k2, hval]; rfl, ?_⟩
    rw [List.map_cons, List.map_cons, k3, ← h4, e2]
theorem var_cells {W : World} {g : Nat} {s : String} {cs : Array Value} {vs : List AV} (hg : Tryd.prog.globalNamed s = some g) (hvar : W.var? Tryd.prog s = some cs) (hc : RelL (C0 W) vs cs.toList) (ho : ∀ v ∈ cs.toList, v.oneCell' = true) : RelAt (C0 W) vs g 0 := by
  have hsz : g < W.heap.size := by
    unfold World.var? at hvar
    rw [hg] at hvar
    simp only [Option.bind_some] at hvar
    split at hvar
    · rename_i hh
      exact (Array.getElem?_eq_some_iff.1 hh).1
    · cases hvar
  exact relAt_cells (fun off => fix0 off hsz) hc ho (fun j v hj => by
    have := World.var?_cell hg hvar j
    show W.cell? ⟨g, 0 + j, none⟩ = some v
    rw [Nat.zero_add, ← hj]
    simpa using this)
set_option maxRecDepth 100000 in
theorem words_of {W : World} {cs : Array Value} {fuel : Nat} {p : List MemPlace} (hd : DataW.trod (fun _ => ()) Tryd.prog W 0 (fun _ => true) false fuel 146 cs.toList = some (Rows.laid_shuttlecock_ast_words, p)) : ∃ ks : List ByteArray, (RelL (C0 W) [.mapf (ks.map Value.string) (List.replicate ks.length (A.bool true))] cs.toList ∧ ∀ v ∈ cs.toList, v.oneCell' = true) ∧ ∀ s, (findS ks s).isSome = A.wordM s := by
  rw [laidL_eq] at hd
  cases fuel with
  | zero => simp [DataW.trod] at hd
  | succ n =>
    have hcs : ∃ b, cs.toList = [.map (some b)] := by
      unfold DataW.trod at hd
      rw [Tryd.underlying146] at hd
      split at hd <;> first | (exact ⟨_, rfl⟩) | (rename_i hc; exact ⟨_, hc⟩) | (simp at hd; done) | (simp_all; done)
    obtain ⟨b, hcb⟩ := hcs
    rw [hcb] at hd
    unfold DataW.trod at hd
    rw [Tryd.underlying146] at hd
    simp only at hd
    split at hd <;> try (simp at hd; done)
    rename_i es clock hb
    split at hd <;> try (simp at hd; done)
    obtain ⟨ents, he1, he2⟩ := Option.bind_eq_some_iff.1 hd
    split at he2 <;> try (simp at he2; done)
    have hL : (ents.map (·.1)).foldr DataW.insert [] = laidL := by
      simp only [Option.some.injEq, Prod.mk.injEq, DataW.map.injEq] at he2
      exact he2.1
    have hperm : laidL.Perm (ents.map (·.1)) := by
      rw [← hL]
      exact sorted_perm _
    obtain ⟨ks, k1, k2, k3⟩ := entries_of (mapM_pairs he1) fun p hp => by
      have := hperm.mem_iff.2 hp
      simp only [laidL, List.mem_map] at this
      obtain ⟨s, _, rfl⟩ := this
      rfl
    have hks : ∀ s, s ∈ ks ↔ s ∈ A.words := by
      intro s
      have e1 : (A.words.map fun s => Lit.string s.data.toList).Perm (ks.map fun s => Lit.string s.data.toList) := by
        have h5 : laidL.map (·.1) = A.words.map (fun s => Lit.string s.data.toList) := by
          unfold laidL
          rw [List.map_map]
          rfl
        have h6 : (ents.map (·.1)).map (·.1) = ents.map (·.1.1) := by
          rw [List.map_map]
          rfl
        have := hperm.map (·.1)
        rw [h5, h6, k3] at this
        exact this
      have e2 := e1.mem_iff (a := Lit.string s.data.toList)
      simp only [List.mem_map, Lit.string.injEq] at e2
      constructor
      · intro hs
        obtain ⟨t, h1, h2⟩ := e2.2 ⟨s, hs, rfl⟩
        rwa [bytes_list h2] at h1
      · intro hs
        obtain ⟨t, h1, h2⟩ := e2.1 ⟨s, hs, rfl⟩
        rwa [bytes_list h2] at h1
    refine ⟨ks, ⟨?_, fun v hv => by rw [hcb] at hv; simp at hv; subst hv; rfl⟩, fun s => ?_⟩
    · rw [hcb]
      refine ⟨⟨b, es, clock, rfl, fixB0 (Array.getElem?_eq_some_iff.1 hb).1, hb, k1, ?_⟩, trivial⟩
      rw [k2]
      clear k1 k2 k3 hks
      induction ks with
      | nil => trivial
      | cons a l ih => exact ⟨rfl, ih⟩
    · rw [Bool.eq_iff_iff, findS_mem_iff]
      unfold A.wordM
      rw [findS_mem_iff]
      exact hks s
theorem wall (W : World) (h : laidMetH Tryd.prog Rows.flowChecksRow.laid W) : ∃ ks : List ByteArray, RelG (C0 W) (GK (.mapf (ks.map Value.string) (List.replicate ks.length (A.bool true))) []) ∧ A.Words (GK (.mapf (ks.map Value.string) (List.replicate ks.length (A.bool true))) []) := by
  have h1 : laidMet Tryd.prog Rows.flowChecksRow.laid W := h
  obtain ⟨ps, ⟨g1, t1, cs1, fu1, p1, q1, hg1, ht1, hv1, hd1, ⟨g2, t2, cs2, fu2, p2, q2, hg2, ht2, hv2, hd2, ⟨g3, t3, cs3, fu3, p3, q3, hg3, ht3, hv3, hd3, _, _⟩, _⟩, _⟩, _⟩ := h1
  obtain rfl := Option.some.inj (gWords.symm.trans hg1)
  obtain rfl := Option.some.inj (gWordsType.symm.trans ht1)
  obtain rfl := Option.some.inj (gKinds.symm.trans hg2)
  obtain rfl := Option.some.inj (gKindsType.symm.trans ht2)
  obtain rfl := Option.some.inj (gRules.symm.trans hg3)
  obtain rfl := Option.some.inj (gRulesType.symm.trans ht3)
  obtain ⟨ks, hw1, hw2⟩ := words_of hd1
  have hc2 := dec_sliceD (sz := 4) Tryd.encK dtK Tryd.underlying159 cells158 (by decide) (fun _ => rfl) (fun n cs x a => dec_k) hd2 Tryd.kindsT [] rfl
  have hc3 := dec_sliceD (sz := 2) Tryd.encR dtR Tryd.underlying163 cells162 (by decide) (fun _ => rfl) (fun n cs x a => dec_r) hd3 Tryd.rulesT [] rfl
  refine ⟨ks, ?_, ks, rfl, hw2⟩
  intro x hx
  simp only [GK, List.mem_cons, List.not_mem_nil, or_false] at hx
  rcases hx with rfl | rfl | rfl
  · exact var_cells gKinds hv2 hc2.1 hc2.2
  · exact var_cells gRules hv3 hc3.1 hc3.2
  · exact var_cells gWords hv1 hw1.1 hw1.2
noncomputable def laidK : Obj := .cells ((Tryd.kindsT.flatMap fun k => [Value.int .i64 k.1, .int .i64 k.2.1, .int .i64 k.2.2.1, .int .i64 k.2.2.2]).toArray) 158 (0, 0)
noncomputable def laidR : Obj := .cells ((Tryd.rulesT.flatMap fun k => [Value.int .i64 k.1, .int .i64 k.2]).toArray) 162 (0, 0)
noncomputable def laidM : Obj := .map ((A.words.toArray.mapIdx fun i s => { key := .string s, val := .bool true, born := i })) 20
def putCell (v : Value) : Obj → Obj
  | .cells _ t frozen => .cells #[v] t frozen
  | o => o
noncomputable def laidWorld (os : Os) : World :=
  let W := World.holding Tryd.prog os ⟨#[laidK, laidR, laidM], #[], []⟩
  let n := (World.settled Tryd.prog os).heap.size
  { W with heap := ((W.heap.modify 0 (putCell (.slice (some ⟨n, 0, none⟩) 8 8))).modify 1 (putCell (.slice (some ⟨n + 1, 0, none⟩) 15 15))).modify 2 (putCell (.map (some (n + 2)))) }
theorem laid_met (os : Os) : laidMet Tryd.prog Rows.flowChecksRow.laid ((laidWorld os).forCall (fun _ _ => 0) ⟨#[], #[.int .u16 0, .int .u8 0], []⟩).memory :=
  laidMet_of_run' 8 (by kernel_rfl) (by kernel_rfl)
end Fr
end Go.Proofs.YtnjehllmlheagaaDoor
/-! Orders of things that hang on others, as plain things. -/
namespace Go.Proofs.Tryd
set_option linter.unusedSimpArgs false
set_option linter.unusedVariables false
open Go Go.Proofs.Ev
namespace Fl
abbrev bool (b : Bool) : AV := .val (.bool b)
def bools (l : List Bool) : List AV := l.map bool
/-- Is a thing next that may come: it has not come, and all on which it hangs have. -/
def rdy (R : Nat → Nat → Bool) (n : Nat) (d : List Bool) (i : Nat) : Bool := !d.getD i false && (List.range n).all fun k => d.getD k false || !R i k
def nxt (R : Nat → Nat → Bool) (n : Nat) (d : List Bool) : Option Nat := (List.range n).find? (rdy R n d)
def ordGo (R : Nat → Nat → Bool) (n : Nat) : Nat → List Bool → List Nat → Option (List Nat)
  | 0, _, out => some out
  | m + 1, d, out => match nxt R n d with
    | none => none
    | some i => ordGo R n m (d.set i true) (out ++ [i])
def ord (R : Nat → Nat → Bool) (n : Nat) : Option (List Nat) := ordGo R n n (List.replicate n false) []
theorem nxt_lt {R : Nat → Nat → Bool} {n : Nat} {d : List Bool} {i : Nat} (h : nxt R n d = some i) : i < n ∧ rdy R n d i = true := by
  exact ⟨List.mem_range.1 (List.mem_of_find?_eq_some h), List.find?_some h⟩
/-- Which things stand ahead of each other in an order that is found. -/
structure OrdOk (R : Nat → Nat → Bool) (n : Nat) (d : List Bool) (out : List Nat) : Prop where
  len : d.length = n
  mem : ∀ k, k < n → (d.getD k false = true ↔ k ∈ out)
  lt : ∀ k ∈ out, k < n
  nodup : out.Nodup
  ahead : ∀ (p : List Nat) (i : Nat) (q : List Nat), out = p ++ i :: q → ∀ k, k < n → R i k = true → k ∈ p
theorem getD_set_true {d : List Bool} {i k : Nat} (hi : i < d.length) : (d.set i true).getD k false = (decide (k = i) || d.getD k false) := by
  rw [List.getD_eq_getElem?_getD, List.getElem?_set, List.getD_eq_getElem?_getD]
  by_cases e : i = k
  · subst e
    simp [hi]
  · have e' : ¬ k = i := fun h => e h.symm
    simp [e, e']
theorem OrdOk.step {R : Nat → Nat → Bool} {n : Nat} {d : List Bool} {out : List Nat} (h : OrdOk R n d out) {i : Nat} (hx : nxt R n d = some i) : OrdOk R n (d.set i true) (out ++ [i]) := by
  obtain ⟨hi, hr⟩ := nxt_lt hx
  unfold rdy at hr
  simp only [Bool.and_eq_true, Bool.not_eq_true', List.all_eq_true, List.mem_range, Bool.or_eq_true] at hr
  obtain ⟨hd, hr⟩ := hr
  have hni : i ∉ out := fun hm => by
    rw [(h.mem i hi).2 hm] at hd
    cases hd
  refine ⟨by simp [h.len], fun k hk => ?_, fun k hk => ?_, ?_, ?_⟩
  · rw [getD_set_true (by rw [h.len]; exact hi), List.mem_append, ← h.mem k hk]
    simp only [Bool.or_eq_true, decide_eq_true_eq, List.mem_singleton]
    exact ⟨fun g => g.symm, fun g => g.symm⟩
  · rcases List.mem_append.1 hk with hk | hk
    · exact h.lt k hk
    · rw [List.mem_singleton.1 hk]; exact hi
  · rw [List.nodup_append]
    refine ⟨h.nodup, by simp, fun a ha b hb => ?_⟩
    rw [List.mem_singleton.1 hb]
    rintro rfl
    exact hni ha
  · intro p j q e k hk hR
    rcases List.eq_nil_or_concat q with rfl | ⟨q', z, rfl⟩
    · have e2 : out = p ∧ i = j := by simpa using List.append_inj' e rfl
      obtain ⟨rfl, rfl⟩ := e2
      rcases hr k hk with g | g
      · exact (h.mem k hk).1 g
      · rw [hR] at g
        cases g
    · have e2 : out = p ++ j :: q' ∧ i = z := by
        have : out ++ [i] = (p ++ j :: q') ++ [z] := by rw [e]; simp
        simpa using List.append_inj' this rfl
      exact h.ahead p j q' e2.1 k hk hR
theorem OrdOk.start (R : Nat → Nat → Bool) (n : Nat) : OrdOk R n (List.replicate n false) [] :=
  ⟨by simp, fun k hk => by simp [List.getD_eq_getElem?_getD, List.getElem?_replicate, hk], (fun k hk => by cases hk), List.nodup_nil, fun p i q e => by simp at e⟩
theorem ordGo_ok {R : Nat → Nat → Bool} {n : Nat} : ∀ (m : Nat) (d : List Bool) (out : List Nat) {o : List Nat}, OrdOk R n d out → ordGo R n m d out = some o → ∃ d', OrdOk R n d' o ∧ o.length = out.length + m
  | 0, d, out, o, h, e => by
    cases e
    exact ⟨d, h, rfl⟩
  | m + 1, d, out, o, h, e => by
    unfold ordGo at e
    cases hx : nxt R n d with
    | none => rw [hx] at e; cases e
    | some i =>
      rw [hx] at e
      obtain ⟨d', h1, h2⟩ := ordGo_ok m _ _ (h.step hx) e
      exact ⟨d', h1, by rw [h2]; simp; omega⟩
/-- An order that is found: each thing once, behind all on which it hangs. -/
theorem ord_ok {R : Nat → Nat → Bool} {n : Nat} {o : List Nat} (h : ord R n = some o) : o.length = n ∧ (∀ k ∈ o, k < n) ∧ o.Nodup ∧ ∀ (p : List Nat) (i : Nat) (q : List Nat), o = p ++ i :: q → ∀ k, k < n → R i k = true → k ∈ p := by
  obtain ⟨d, h1, h2⟩ := ordGo_ok n _ _ (OrdOk.start R n) h
  exact ⟨by simpa using h2, h1.lt, h1.nodup, h1.ahead⟩
end Fl
end Go.Proofs.Tryd
/-! Live rows of one-celled things: made, read, written, frozen. -/
namespace Go.Proofs.Tryd
set_option linter.unusedSimpArgs false
set_option linter.unusedVariables false
open Go Go.Proofs.Ev
namespace Fl
variable {α : Type}
theorem aZ (v : AV) (j : Nat) : aZeros [v] j = List.replicate j v := by
  simp only [aZeros, List.length_singleton, Nat.mod_one, List.getD_cons_zero]
  exact List.map_const' ..  |>.trans (by simp)
theorem at_osl {o n : Nat} {k : IntKind} {i : Nat} (h : i < n) : aAt 1 (.osl o 0 n 1) (.val (.int k (i : Nat))) = some (.ref o i) := by
  simp [aAt]
  omega
theorem dr_map (en : α → AV) {c : List α} {i : Nat} (h : i < c.length) : (c.map en).drop i = en c[i] :: (c.map en).drop (i + 1) := by
  rw [List.drop_eq_getElem_cons (by simpa using h)]
  simp
theorem spl_map (en : α → AV) {c : List α} {i : Nat} (h : i < c.length) (v : α) : (c.map en).take i ++ en v :: (c.map en).drop (i + 1) = (c.set i v).map en := by
  rw [List.map_set, List.set_eq_take_append_cons_drop, if_pos (by simpa using h)]
theorem flat_map (en : α → AV) (hen : ∀ a, (en a).cells = [en a]) (c : List α) : (c.map en).flatMap AV.cells = c.map en := by
  induction c with
  | nil => rfl
  | cons x c ih =>
    show (en x).cells ++ (c.map en).flatMap AV.cells = _
    rw [ih, hen]
    rfl
theorem frz_live (en : α → AV) (hen : ∀ a, (en a).cells = [en a]) (hbel : ∀ a n, (en a).bel n = true) {n o : Nat} {σ : Sto} {c : List α} {l : Nat} (ho : n ≤ o) (h : σ[o]? = some (.cells (c.map en))) (hl : l = c.length) : Frz n σ (.osl o 0 l 1) (.sl 1 (c.map en)) := by
  subst hl
  refine .row ho h (by simp) ?_ (by simp) (fun e he => by obtain ⟨x, _, rfl⟩ := List.mem_map.1 he; rw [hen]; rfl)
  rw [List.drop_zero, Nat.mul_one, List.take_of_length_le (by simp), flat_map en hen]
  exact FrzL.keep (belL_map _ _ fun _ _ => hbel _ _)
theorem mkB {n : Nat} (hn : n ≤ 2000) (σ : Sto) (k k1 : IntKind) : aMakeSlice prog σ 104 (.val (.int k (n : Nat))) (.val (.int k1 (n : Nat))) = some (.osl σ.length 0 n 1, σ ++ [.cells (bools (List.replicate n false))]) := by
  rw [mk104, if_pos ⟨by omega, by simp [fits]; omega⟩, Int.toNat_natCast, Nat.mul_one, aZ, bools, List.map_replicate]
end Fl
end Go.Proofs.Tryd
/-! Diagrams: what is the same, what is great, the document's answers. -/
namespace Go.Proofs.Tryd
set_option linter.unusedSimpArgs false
set_option linter.unusedVariables false
open Go Go.Proofs.Ev
variable {Γ : List (Nat × List AV)}
-- the same, but for nil
abbrev KBlk := Int × Int × Int × Int × Int × Int × List (Int × Int)
set_option synthInstance.maxSize 4096 in
instance : DecidableEq KBlk := fun a b => inferInstance
abbrev KDgm := ByteArray × List (ByteArray × Int) × List ((ByteArray × Int) × Int × Int) × List KBlk
set_option synthInstance.maxSize 4096 in
instance : DecidableEq KDgm := fun a b => inferInstance
-- the document's types
theorem row_bel {α : Type} {en : α → AV} (h : ∀ a n, (en a).bel n = true) (n sz : Nat) (nl : Bool) (l : List α) : (rowAV sz nl (l.map en)).bel n = true := by
  have := belL_map (n := n) en l fun x _ => h x n
  cases l with
  | nil => cases nl <;> rfl
  | cons a l => simpa [rowAV, AV.bel] using this
theorem src_bel (s : Src) (n : Nat) : s.enc.bel n = true := rfl
theorem port_bel (s : PortM) (n : Nat) : s.enc.bel n = true := rfl
theorem out_bel (s : OutM) (n : Nat) : s.enc.bel n = true := rfl
theorem blk_bel (s : Blk) (n : Nat) : s.enc.bel n = true := by simp [Blk.enc, AV.bel, belL, row_bel src_bel]
theorem dgm_bel (s : Dgm) (n : Nat) : s.enc.bel n = true := by simp [Dgm.enc, AV.bel, belL, row_bel port_bel, row_bel out_bel, row_bel blk_bel]
theorem frz_row {α : Type} {en : α → AV} (h : ∀ a n, (en a).bel n = true) {n k sz : Nat} {σ : Sto} (hk : n ≤ k) (l : List α) : Frz n σ (.slo true sz (l.map en) k) (rowAV sz true (l.map en)) := by
  cases l with
  | nil => exact .ownNil
  | cons a l => exact .own hk (by simp) (FrzR.keep (belL_map (n := n) en (a :: l) fun x _ => h x n))
theorem src_len (d : Src) : d.enc.cells.length = 2 := rfl
theorem port_len (d : PortM) : d.enc.cells.length = 2 := rfl
theorem out_len (d : OutM) : d.enc.cells.length = 4 := rfl
theorem dgm_len (d : Dgm) : d.enc.cells.length = 4 := rfl
theorem blk_len (d : Blk) : d.enc.cells.length = 7 := rfl
-- great
-- the document's answers
theorem dgm_cells (d : Dgm) : d.enc.cells = [str d.name, rowAV 2 d.nlI (d.ins.map PortM.enc), rowAV 4 d.nlO (d.outs.map OutM.enc), rowAV 7 d.nlB (d.blocks.map Blk.enc)] := rfl
theorem file_len (f : FileM) : f.enc.cells.length = 1 := rfl
end Go.Proofs.Tryd
/-! Flow: numbers alike, orders by the reference. -/
namespace Go.Proofs.Tryd
set_option linter.unusedSimpArgs false
set_option linter.unusedVariables false
open Go Go.Proofs.Ev
namespace Fl
variable {Γ : List (Nat × List AV)}
def natA (n : Nat) : AV := i64 ((n : Nat) : Int)
theorem wrapI {n : Int} (h1 : -1000000 ≤ n) (h2 : n ≤ 1000000) : IntKind.wrap .i64 n = n := wrap_i64 (by omega) (by omega)
def ordAV : Option (List Nat) → AV
  | some o => .tup [rowAV 1 true (o.map natA), .val (.bool true)]
  | none => .tup [.nilsl, .val (.bool false)]
theorem dr_bool {d : List Bool} {i : Nat} (h : i < d.length) : (bools d).drop i = bool (d.getD i false) :: (bools d).drop (i + 1) := by
  rw [bools, dr_map bool h, List.getD_eq_getElem?_getD, List.getElem?_eq_getElem h]
  rfl
theorem spl_bool {d : List Bool} {i : Nat} (h : i < d.length) (v : Bool) : (bools d).take i ++ bool v :: (bools d).drop (i + 1) = bools (d.set i v) := spl_map bool h v
/-- The number of the first diagram of a name. -/
def findD (l : List Dgm) (s : ByteArray) : Option Nat := l.findIdx? fun d => decide (d.name = s)
def hit (l : List Bool) (s : Src) : List Bool := if s.block ≥ 0 then l.set s.block.toNat true else l
/-- On which blocks a block hangs. -/
def rowF (n : Nat) (b : Blk) : List Bool := if b.kind = 4 then List.replicate n false else b.src.foldl hit (List.replicate n false)
/-- A diagram's sources are blocks of its own. -/
def inB (d : Dgm) : Prop := ∀ b ∈ d.blocks, ∀ s ∈ b.src, s.block < (d.blocks.length : Int)
theorem dgm_cbel (d : Dgm) (n : Nat) : AO.bel n (.cells [str d.name, rowAV 2 d.nlI (d.ins.map PortM.enc), rowAV 4 d.nlO (d.outs.map OutM.enc), rowAV 7 d.nlB (d.blocks.map Blk.enc)]) = true := by simp [AO.bel, belL, AV.bel, row_bel port_bel, row_bel out_bel, row_bel blk_bel]
theorem dgm_cbel' (d : Dgm) (n : Nat) : AO.bel n (.cells d.enc.cells) = true := by rw [dgm_cells]; exact dgm_cbel d n


end Fl
end Go.Proofs.Tryd
/-! What the document says of blocks. -/
namespace Go.Proofs.Tryd
set_option linter.unusedSimpArgs false
set_option linter.unusedVariables false
open Go Go.Proofs.Ev
variable {Γ : List (Nat × List AV)}


end Go.Proofs.Tryd
/-! Diagrams: what the program's functions come to. -/
namespace Go.Proofs.Tryd
set_option linter.unusedSimpArgs false
set_option linter.unusedVariables false
open Go Go.Proofs.Ev
variable {w : AV} {G : List (Nat × List AV)}
variable {Γ : List (Nat × List AV)}
set_option maxRecDepth 100000 in
theorem results_calls (f : FileM) (b : Blk) : APure prog Γ 76 [f.enc, b.enc] (.val (.int .i64 (f.results b))) := by
  refine APure.of func76 rfl fun σ => ?_
  simp only [ntmps76, List.length_cons, List.length_nil, Nat.reduceAdd, Nat.reduceSub, List.replicate_succ, List.replicate_zero, List.cons_append, List.nil_append]
  obtain ⟨kind, op, sub, bn, bx, by', nl, src⟩ := b
  obtain ⟨fnl, ds⟩ := f
  refine AW.regl false [2, 3, 4] (by rfl) fun K1 hK1 => ?_ -- region 0
  simp only [go_sem, Nat.reduceAdd, Nat.reduceEqDiff, Nat.reduceLeDiff, true_and, FileM.enc, Blk.enc, List.length_map]
  refine hK1 _ _ ?_; try clear hK1 K1
  conv => enter [5]; simp only [setL_cons, setL_nil, List.set_cons_zero, List.set_cons_succ]
  refine AW.seq_k fun K2 hK2 => ?_
  refine AW.block ?_
  refine AW.regtf false 5 (.val (.bool (decide (kind < 0) || decide (kind > 7)))) (by rfl) ?_ ?_ -- region 1
  · skip
    cases h8 : (decide (kind < 0))
    · skip
      simp only [go_sem, Nat.reduceAdd, Nat.reduceEqDiff, Nat.reduceLeDiff, true_and, FileM.enc, Blk.enc, List.length_map, h8]
      try simp [upd_at, h8, FileM.enc, Blk.enc, List.length_map]
    · skip
      simp only [go_sem, Nat.reduceAdd, Nat.reduceEqDiff, Nat.reduceLeDiff, true_and, FileM.enc, Blk.enc, List.length_map, h8]
      try simp [upd_at, h8, FileM.enc, Blk.enc, List.length_map]
  conv => enter [5]; simp only [List.set_cons_zero, List.set_cons_succ]
  refine AW.cond rfl (fun hc5 => ?_) (fun hc5 => ?_)
  · skip
    refine AW.regl false [4] (by rfl) fun K4 hK4 => ?_ -- region 2
    simp only [go_sem, Nat.reduceAdd, Nat.reduceEqDiff, Nat.reduceLeDiff, true_and, FileM.enc, Blk.enc, List.length_map]
    refine hK4 _ _ ?_; try clear hK4 K4
    conv => enter [5]; simp only [setL_cons, setL_nil, List.set_cons_zero, List.set_cons_succ]
    refine AW.ret ⟨.inr rfl, _, rfl, by simp, ?_⟩ -- return 1
    simp only [FileM.results]
    rw [if_pos hc5]
    exact .keep rfl
  · skip
    refine AW.regl false [14] (by rfl) fun K5 hK5 => ?_ -- region 3
    simp only [go_sem, Nat.reduceAdd, Nat.reduceEqDiff, Nat.reduceLeDiff, true_and, FileM.enc, Blk.enc, List.length_map]
    refine hK5 _ _ ?_; try clear hK5 K5
    conv => enter [5]; simp only [setL_cons, setL_nil, List.set_cons_zero, List.set_cons_succ]
    refine AW.cond rfl (fun hc14 => ?_) (fun hc14 => ?_)
    · skip
      refine AW.regl false [4] (by rfl) fun K6 hK6 => ?_ -- region 4
      simp only [go_sem, Nat.reduceAdd, Nat.reduceEqDiff, Nat.reduceLeDiff, true_and, FileM.enc, Blk.enc, List.length_map]
      refine hK6 _ _ ?_; try clear hK6 K6
      conv => enter [5]; simp only [setL_cons, setL_nil, List.set_cons_zero, List.set_cons_succ]
      refine AW.ret ⟨.inr rfl, _, rfl, by simp, ?_⟩ -- return 2
      simp only [FileM.results]
      rw [if_neg (ne_true_of_eq_false hc5), if_pos hc14]
      exact .keep rfl
    · skip
      refine AW.regtf false 18 (.val (.bool (decide (sub < 0) || decide (sub ≥ (ds.length : Int))))) (by rfl) ?_ ?_ -- region 5
      · skip
        cases h21 : (decide (sub < 0))
        · skip
          simp only [go_sem, Nat.reduceAdd, Nat.reduceEqDiff, Nat.reduceLeDiff, true_and, FileM.enc, Blk.enc, List.length_map, h21]
          try simp [upd_at, h21, FileM.enc, Blk.enc, List.length_map]
        · skip
          simp only [go_sem, Nat.reduceAdd, Nat.reduceEqDiff, Nat.reduceLeDiff, true_and, FileM.enc, Blk.enc, List.length_map, h21]
          try simp [upd_at, h21, FileM.enc, Blk.enc, List.length_map]
      conv => enter [5]; simp only [List.set_cons_zero, List.set_cons_succ]
      refine AW.cond rfl (fun hc18 => ?_) (fun hc18 => ?_)
      · skip
        refine AW.regl false [4] (by rfl) fun K8 hK8 => ?_ -- region 6
        simp only [go_sem, Nat.reduceAdd, Nat.reduceEqDiff, Nat.reduceLeDiff, true_and, FileM.enc, Blk.enc, List.length_map]
        refine hK8 _ _ ?_; try clear hK8 K8
        conv => enter [5]; simp only [setL_cons, setL_nil, List.set_cons_zero, List.set_cons_succ]
        refine AW.ret ⟨.inr rfl, _, rfl, by simp, ?_⟩ -- return 3
        simp only [FileM.results]
        rw [if_neg (ne_true_of_eq_false hc5), if_neg (ne_true_of_eq_false hc14), if_pos hc18]
        exact .keep rfl
      · skip
        have h0 : ¬ sub < 0 ∧ sub < ds.length := by simpa using hc18
        obtain ⟨j, rfl⟩ := Int.eq_ofNat_of_zero_le (by omega : 0 ≤ sub)
        have hj : j < ds.length := by omega
        have hx : (ds.map Dgm.enc)[j]? = some (ds[j]).enc := by simp [hj]
        refine AW.skip ?_
        refine hK2 _ _ ?_; try clear hK2 K2
        refine AW.regl false [4] (by rfl) fun K9 hK9 => ?_ -- region 7
        simp only [go_sem, Nat.reduceAdd, Nat.reduceEqDiff, Nat.reduceLeDiff, true_and, FileM.enc, Blk.enc, List.length_map, at_row hx, Dgm.enc]
        refine hK9 _ _ ?_; try clear hK9 K9
        conv => enter [5]; simp only [setL_cons, setL_nil, List.set_cons_zero, List.set_cons_succ]
        refine AW.ret ⟨.inr rfl, _, rfl, by simp, ?_⟩ -- return 4
        simp only [FileM.results]
        rw [if_neg (ne_true_of_eq_false hc5), if_neg (ne_true_of_eq_false hc14), if_neg (ne_true_of_eq_false hc18)]
        simp only [Int.toNat_natCast, List.getElem?_eq_getElem hj]
        exact .keep rfl

set_option maxRecDepth 100000 in
theorem source_calls (f : FileM) (d : Dgm) (s : Src) : APure prog Γ 71 [f.enc, d.enc, s.enc] (.val (.bool (f.source d s))) := by
  refine APure.of func71 rfl fun σ => ?_
  simp only [ntmps71, List.length_cons, List.length_nil, Nat.reduceAdd, Nat.reduceSub, List.replicate_succ, List.replicate_zero, List.cons_append, List.nil_append]
  obtain ⟨block, port⟩ := s
  obtain ⟨name, nlI, ins, nlO, outs, nlB, blocks⟩ := d
  refine AW.regl false [3, 4, 5, 6] (by rfl) fun K1 hK1 => ?_ -- region 0
  simp only [go_sem, Nat.reduceAdd, Nat.reduceEqDiff, Nat.reduceLeDiff, true_and, FileM.enc, Dgm.enc, Src.enc, List.length_map]
  refine hK1 _ _ ?_; try clear hK1 K1
  conv => enter [5]; simp only [setL_cons, setL_nil, List.set_cons_zero, List.set_cons_succ]
  refine AW.regl false [7] (by rfl) fun K2 hK2 => ?_ -- region 1
  simp only [go_sem, Nat.reduceAdd, Nat.reduceEqDiff, Nat.reduceLeDiff, true_and, FileM.enc, Dgm.enc, Src.enc, List.length_map]
  refine hK2 _ _ ?_; try clear hK2 K2
  conv => enter [5]; simp only [setL_cons, setL_nil, List.set_cons_zero, List.set_cons_succ]
  refine AW.seq_k fun K3 hK3 => ?_
  refine AW.regl false [13] (by rfl) fun K4 hK4 => ?_ -- region 2
  simp only [go_sem, Nat.reduceAdd, Nat.reduceEqDiff, Nat.reduceLeDiff, true_and, FileM.enc, Dgm.enc, Src.enc, List.length_map]
  refine hK4 _ _ ?_; try clear hK4 K4
  conv => enter [5]; simp only [setL_cons, setL_nil, List.set_cons_zero, List.set_cons_succ]
  refine AW.cond rfl (fun hc13 => ?_) (fun hc13 => ?_)
  · skip
    refine AW.seq_k fun K5 hK5 => ?_
    refine AW.regtf false 24 (.val (.bool (decide (block < 0) || decide (block ≥ (blocks.length : Int))))) (by rfl) ?_ ?_ -- region 3
    · skip
      cases h16 : (decide (block < 0))
      · skip
        simp only [go_sem, Nat.reduceAdd, Nat.reduceEqDiff, Nat.reduceLeDiff, true_and, FileM.enc, Dgm.enc, Src.enc, List.length_map, h16]
        try simp [upd_at, h16, FileM.enc, Dgm.enc, Src.enc, List.length_map]
      · skip
        simp only [go_sem, Nat.reduceAdd, Nat.reduceEqDiff, Nat.reduceLeDiff, true_and, FileM.enc, Dgm.enc, Src.enc, List.length_map, h16]
        try simp [upd_at, h16, FileM.enc, Dgm.enc, Src.enc, List.length_map]
    conv => enter [5]; simp only [List.set_cons_zero, List.set_cons_succ]
    refine AW.cond rfl (fun hc24 => ?_) (fun hc24 => ?_)
    · skip
      refine AW.regl false [6] (by rfl) fun K7 hK7 => ?_ -- region 4
      simp only [go_sem, Nat.reduceAdd, Nat.reduceEqDiff, Nat.reduceLeDiff, true_and, FileM.enc, Dgm.enc, Src.enc, List.length_map]
      refine hK7 _ _ ?_; try clear hK7 K7
      conv => enter [5]; simp only [setL_cons, setL_nil, List.set_cons_zero, List.set_cons_succ]
      refine AW.ret ⟨.inr rfl, _, rfl, by simp, ?_⟩ -- return 1
      refine frzB ?_
      simp only [FileM.source]
      rw [if_pos hc13, if_pos hc24]
    · skip
      have h0 : ¬ block < 0 ∧ block < blocks.length := by simpa using hc24
      obtain ⟨j, rfl⟩ := Int.eq_ofNat_of_zero_le (by omega : 0 ≤ block)
      have hj : j < blocks.length := by omega
      have hx : (blocks.map Blk.enc)[j]? = some (blocks[j]).enc := by simp [hj]
      refine AW.skip ?_
      refine hK5 _ _ ?_; try clear hK5 K5
      refine AW.lastdl mixed false [7] (by kernel_rfl) (by rfl) fun K hK => ?_ -- region 5
      simp only [go_sem, Nat.reduceAdd, Nat.reduceEqDiff, Nat.reduceLeDiff, true_and, FileM.enc, Dgm.enc, Src.enc, List.length_map, at_row hx, blk_get]
      refine qC.of en76 ((results_calls f blocks[j]).on _).here rfl ?_
      try simp only [go_sem, Nat.reduceAdd, Nat.reduceEqDiff, Nat.reduceLeDiff, true_and, FileM.enc, Dgm.enc, Src.enc, List.length_map, at_row hx, blk_get]
      refine hK _ fun env' hw => ?_
      simp only [setL_cons, setL_nil, List.set_cons_zero, List.set_cons_succ] at hw
      refine hK3 _ _ (AW.weaken hw ?_); clear hw; try clear hK3 K3
      refine AW.regtf false 6 (.val (.bool (decide (port ≥ 0) && decide (port < f.results blocks[j])))) (by rfl) ?_ ?_ -- region 6
      · skip
        cases h35 : (decide (port ≥ 0))
        · skip
          simp only [go_sem, Nat.reduceAdd, Nat.reduceEqDiff, Nat.reduceLeDiff, true_and, FileM.enc, Dgm.enc, Src.enc, List.length_map, h35]
          try simp [upd_at, h35, FileM.enc, Dgm.enc, Src.enc, List.length_map]
        · skip
          simp only [go_sem, Nat.reduceAdd, Nat.reduceEqDiff, Nat.reduceLeDiff, true_and, FileM.enc, Dgm.enc, Src.enc, List.length_map, h35]
          try simp [upd_at, h35, FileM.enc, Dgm.enc, Src.enc, List.length_map]
      conv => enter [5]; simp only [List.set_cons_zero, List.set_cons_succ]
      refine AW.ret ⟨.inr rfl, _, rfl, by simp, ?_⟩ -- return 2
      refine frzB ?_
      simp only [FileM.source]
      rw [if_pos hc13, if_neg (ne_true_of_eq_false hc24)]
      simp only [Int.toNat_natCast, List.getElem?_eq_getElem hj]
  · skip
    refine AW.skip ?_
    refine hK3 _ _ ?_; try clear hK3 K3
    refine AW.regtf false 6 (.val (.bool (decide (port ≥ 0) && decide (port < (ins.length : Int))))) (by rfl) ?_ ?_ -- region 6
    · skip
      cases h35 : (decide (port ≥ 0))
      · skip
        simp only [go_sem, Nat.reduceAdd, Nat.reduceEqDiff, Nat.reduceLeDiff, true_and, FileM.enc, Dgm.enc, Src.enc, List.length_map, h35]
        try simp [upd_at, h35, FileM.enc, Dgm.enc, Src.enc, List.length_map]
      · skip
        simp only [go_sem, Nat.reduceAdd, Nat.reduceEqDiff, Nat.reduceLeDiff, true_and, FileM.enc, Dgm.enc, Src.enc, List.length_map, h35]
        try simp [upd_at, h35, FileM.enc, Dgm.enc, Src.enc, List.length_map]
    conv => enter [5]; simp only [List.set_cons_zero, List.set_cons_succ]
    refine AW.ret ⟨.inr rfl, _, rfl, by simp, ?_⟩ -- return 3
    refine frzB ?_
    simp only [FileM.source]
    rw [if_neg (ne_true_of_eq_false hc13)]

set_option maxRecDepth 100000 in
theorem port_calls (p : PortM) : APure prog Γ 68 [p.enc] (.val (.bool p.right)) := by
  refine APure.of func68 rfl fun σ => ?_
  simp only [ntmps68, List.length_cons, List.length_nil, Nat.reduceAdd, Nat.reduceSub, List.replicate_succ, List.replicate_zero, List.cons_append, List.nil_append]
  obtain ⟨name, type⟩ := p
  refine AW.regl false [1, 2] (by rfl) fun K1 hK1 => ?_ -- region 0
  simp only [go_sem, Nat.reduceAdd, Nat.reduceEqDiff, Nat.reduceLeDiff, true_and, PortM.enc]
  refine hK1 _ _ ?_; try clear hK1 K1
  conv => enter [5]; simp only [setL_cons, setL_nil, List.set_cons_zero, List.set_cons_succ]
  refine AW.regtf false 2 (.val (.bool ((decide ((name.size : Int) ≤ 65535) && decide (type ≥ 0)) && decide (type ≤ 1)))) (by rfl) ?_ ?_ -- region 1
  · skip
    cases h6 : (decide ((name.size : Int) ≤ 65535))
    · skip
      simp only [go_sem, Nat.reduceAdd, Nat.reduceEqDiff, Nat.reduceLeDiff, true_and, PortM.enc, h6]
      try simp [upd_at, h6, PortM.enc]
    · skip
      cases h10 : (decide (type ≥ 0))
      · skip
        simp only [go_sem, Nat.reduceAdd, Nat.reduceEqDiff, Nat.reduceLeDiff, true_and, PortM.enc, h6, h10]
        try simp [upd_at, h6, h10, PortM.enc]
      · skip
        simp only [go_sem, Nat.reduceAdd, Nat.reduceEqDiff, Nat.reduceLeDiff, true_and, PortM.enc, h6, h10]
        try simp [upd_at, h6, h10, PortM.enc]
  conv => enter [5]; simp only [List.set_cons_zero, List.set_cons_succ]
  refine AW.ret ⟨.inr rfl, _, rfl, by simp, ?_⟩ -- return 1
  refine frzB ?_
  rfl

set_option maxRecDepth 100000 in
theorem block1_calls (f : FileM) (d : Dgm) (s : Src) {σ : Sto} {o1 o2 : Nat} (h1 : σ[o1]? = some (.cells f.enc.cells)) (h2 : σ[o2]? = some (.cells d.enc.cells)) : APureOn prog Γ 88 [s.enc, .ref o1 0, .ref o2 0] σ (.val (.bool (!f.source d s))) := by
  refine APureOn.of func88 rfl fun τ => ?_
  simp only [ntmps88, List.length_cons, List.length_nil, Nat.reduceAdd, Nat.reduceSub, List.replicate_succ, List.replicate_zero, List.cons_append, List.nil_append]
  have h1' := getL h1 τ
  have h2' := getL h2 τ
  generalize σ ++ τ = σ at h1' h2' ⊢
  have g1 := getL h1'
  have g2 := getL h2'
  refine AW.regl false [3, 4] (by rfl) fun K1 hK1 => ?_ -- region 0
  simp only [go_sem, Nat.reduceAdd, Nat.reduceEqDiff, Nat.reduceLeDiff, true_and, g1, g2, src_get, dgm_get, file_get, src_all]
  refine hK1 _ _ ?_; try clear hK1 K1
  conv => enter [5]; simp only [setL_cons, setL_nil, List.set_cons_zero, List.set_cons_succ]
  refine AW.regl false [4] (by rfl) fun K2 hK2 => ?_ -- region 1
  simp only [go_sem, Nat.reduceAdd, Nat.reduceEqDiff, Nat.reduceLeDiff, true_and, g1, g2, src_get, dgm_get, file_get, src_all]
  refine sC.of en71 ((source_calls f d s).on _).here rfl ?_
  try simp only [go_sem, Nat.reduceAdd, Nat.reduceEqDiff, Nat.reduceLeDiff, true_and, g1, g2, src_get, dgm_get, file_get, src_all]
  refine hK2 _ _ ?_; try clear hK2 K2
  conv => enter [5]; simp only [setL_cons, setL_nil, List.set_cons_zero, List.set_cons_succ]
  refine AW.ret ⟨.inr rfl, _, rfl, by simp, ?_⟩ -- return 1
  exact .keep rfl

set_option maxRecDepth 100000 in
theorem indexFunc97 {α : Type} (en : α → AV) (hen : ∀ a, aGet prog 26 (en a).cells = some (en a)) (nl : Bool) (l : List α) (hl : l.length ≤ maxLen) (g : FuncId) (hg : Enters prog g) (caps : List AV) (p : α → Bool) (σ : Sto) (hp : ∀ a ∈ l, APureOn prog Γ g (en a :: caps) σ (.val (.bool (p a)))) : APureOn prog Γ 97 [rowAV 2 nl (l.map en), .fn g caps] σ (.val (.int .i64 (idxFrom p 0 l))) := by
  refine APureOn.of func97 rfl fun τ => ?_
  simp only [ntmps97, List.length_cons, List.length_nil, Nat.reduceAdd, Nat.reduceSub, List.replicate_succ, List.replicate_zero, List.cons_append, List.nil_append]
  have hp' : ∀ (i : Nat) (h : i < l.length), APureOn prog Γ g (en l[i] :: caps) (σ ++ τ) (.val (.bool (p l[i]))) := fun i h => (hp _ (List.getElem_mem h)).more τ
  generalize σ ++ τ = σ at hp' ⊢
  refine AW.regl false [4] (by rfl) fun K1 hK1 => ?_ -- region 0
  simp only [go_sem, Nat.reduceAdd, Nat.reduceEqDiff, Nat.reduceLeDiff, true_and, List.length_map, hen]
  refine hK1 _ _ ?_; try clear hK1 K1
  conv => enter [5]; simp only [setL_cons, setL_nil, List.set_cons_zero, List.set_cons_succ]
  refine AW.seq_k fun K2 hK2 => ?_
  refine AW.regl false [7, 8] (by rfl) fun K3 hK3 => ?_ -- region 1
  simp only [go_sem, Nat.reduceAdd, Nat.reduceEqDiff, Nat.reduceLeDiff, true_and, List.length_map, hen]
  refine hK3 _ _ ?_; try clear hK3 K3
  conv => enter [5]; simp only [setL_cons, setL_nil, List.set_cons_zero, List.set_cons_succ]
  refine AW.block ?_
  refine AW.loop_wk (α := Nat) (fun i => [(rowAV 2 nl (l.map en)), (.fn g caps), .any, .any, .any, .any, .any, (.val (.int .i64 (l.length : Nat))), (.val (.int .i64 (i : Nat))), .any, .any, .any, .any, .any, .any, .any, .any, .any, .any]) (fun i => σ) (fun i => l.length - i) (fun i => i ≤ l.length ∧ idxFrom p 0 l = idxFrom p i (l.drop i)) 0 ?_ ?_
  · exact ⟨⟨Nat.zero_le _, rfl⟩, by simp [Wk], rfl⟩
  · rintro i ⟨hi, hix⟩
    refine AW.regl false [9] (by rfl) fun K4 hK4 => ?_ -- region 2
    simp only [go_sem, Nat.reduceAdd, Nat.reduceEqDiff, Nat.reduceLeDiff, true_and, List.length_map, hen]
    refine hK4 _ _ ?_; try clear hK4 K4
    conv => enter [5]; simp only [setL_cons, setL_nil, List.set_cons_zero, List.set_cons_succ]
    refine AW.seq_k fun K5 hK5 => ?_
    refine AW.cond rfl (fun hc9 => ?_) (fun hc9 => ?_)
    · skip
      have hc9 : i < l.length := by simpa using hc9
      have hx : (l.map en)[i]? = some (en l[i]) := by simp [hc9]
      rw [idxFrom_drop p l i hc9] at hix
      refine AW.skip ?_
      refine hK5 _ _ ?_; try clear hK5 K5
      refine AW.seq_k fun K6 hK6 => ?_
      refine AW.block ?_
      refine AW.regl false [5] (by rfl) fun K7 hK7 => ?_ -- region 3
      simp only [go_sem, Nat.reduceAdd, Nat.reduceEqDiff, Nat.reduceLeDiff, true_and, List.length_map, hen]
      refine hK7 _ _ ?_; try clear hK7 K7
      conv => enter [5]; simp only [setL_cons, setL_nil, List.set_cons_zero, List.set_cons_succ]
      refine AW.regl false [16] (by rfl) fun K8 hK8 => ?_ -- region 4
      simp only [go_sem, Nat.reduceAdd, Nat.reduceEqDiff, Nat.reduceLeDiff, true_and, List.length_map, hen, at_row hx]
      refine sC.of hg (hp' i hc9).here rfl ?_
      try simp only [go_sem, Nat.reduceAdd, Nat.reduceEqDiff, Nat.reduceLeDiff, true_and, List.length_map, hen, at_row hx]
      refine hK8 _ _ ?_; try clear hK8 K8
      conv => enter [5]; simp only [setL_cons, setL_nil, List.set_cons_zero, List.set_cons_succ]
      refine AW.cond rfl (fun hc16 => ?_) (fun hc16 => ?_)
      · skip
        rw [if_pos hc16] at hix
        refine AW.regl false [4] (by rfl) fun K9 hK9 => ?_ -- region 5
        simp only [go_sem, Nat.reduceAdd, Nat.reduceEqDiff, Nat.reduceLeDiff, true_and, List.length_map, hen]
        refine hK9 _ _ ?_; try clear hK9 K9
        conv => enter [5]; simp only [setL_cons, setL_nil, List.set_cons_zero, List.set_cons_succ]
        refine AW.ret ⟨.inr rfl, _, rfl, by simp, ?_⟩ -- return 1
        refine frzI ?_
        exact hix.symm
      · skip
        rw [if_neg (ne_true_of_eq_false hc16)] at hix
        refine AW.skip ?_
        refine hK6 _ _ ?_; try clear hK6 K6
        refine AW.lastl false [8] (by rfl) fun K hK => ?_ -- region 6
        simp only [go_sem, Nat.reduceAdd, Nat.reduceEqDiff, Nat.reduceLeDiff, true_and, List.length_map, hen]
        refine hK _ _ fun env' hw => ?_
        simp only [setL_cons, setL_nil, List.set_cons_zero, List.set_cons_succ] at hw
        refine ⟨i + 1, by omega, ⟨by omega, hix⟩, ?_, rfl⟩
        refine hw.trans ?_
        simp [Wk, wrap_succ hc9 hl]
    · skip
      have hc : i = l.length := by have : ¬ i < l.length := (by simpa using hc9); omega
      refine AW.exit ?_
      refine hK2 _ _ ?_; try clear hK2 K2
      refine AW.regl false [4] (by rfl) fun K10 hK10 => ?_ -- region 7
      simp only [go_sem, Nat.reduceAdd, Nat.reduceEqDiff, Nat.reduceLeDiff, true_and, List.length_map, hen]
      refine hK10 _ _ ?_; try clear hK10 K10
      conv => enter [5]; simp only [setL_cons, setL_nil, List.set_cons_zero, List.set_cons_succ]
      refine AW.ret ⟨.inr rfl, _, rfl, by simp, ?_⟩ -- return 2
      refine frzI ?_
      rw [hix, hc, List.drop_length]
      rfl

set_option maxRecDepth 100000 in
theorem containsFunc87 {α : Type} (en : α → AV) (hen : ∀ a, aGet prog 26 (en a).cells = some (en a)) (nl : Bool) (l : List α) (hl : l.length ≤ maxLen) (g : FuncId) (hg : Enters prog g) (caps : List AV) (p : α → Bool) (σ : Sto) (hp : ∀ a ∈ l, APureOn prog Γ g (en a :: caps) σ (.val (.bool (p a)))) : APureOn prog Γ 87 [rowAV 2 nl (l.map en), .fn g caps] σ (.val (.bool (l.any p))) := by
  refine APureOn.of func87 rfl fun τ => ?_
  simp only [ntmps87, List.length_cons, List.length_nil, Nat.reduceAdd, Nat.reduceSub, List.replicate_succ, List.replicate_zero, List.cons_append, List.nil_append]
  have hi := (indexFunc97 en hen nl l hl g hg caps p σ hp).more τ
  generalize σ ++ τ = σ at hi ⊢
  refine AW.regl false [4] (by rfl) fun K1 hK1 => ?_ -- region 0
  simp only [go_sem, Nat.reduceAdd, Nat.reduceEqDiff, Nat.reduceLeDiff, true_and]
  refine hK1 _ _ ?_; try clear hK1 K1
  conv => enter [5]; simp only [setL_cons, setL_nil, List.set_cons_zero, List.set_cons_succ]
  refine AW.regl false [4] (by rfl) fun K2 hK2 => ?_ -- region 1
  simp only [go_sem, Nat.reduceAdd, Nat.reduceEqDiff, Nat.reduceLeDiff, true_and]
  refine sC.of en97 (hi).here rfl ?_
  try simp only [go_sem, Nat.reduceAdd, Nat.reduceEqDiff, Nat.reduceLeDiff, true_and]
  refine hK2 _ _ ?_; try clear hK2 K2
  conv => enter [5]; simp only [setL_cons, setL_nil, List.set_cons_zero, List.set_cons_succ]
  refine AW.ret ⟨.inr rfl, _, rfl, by simp, ?_⟩ -- return 1
  refine frzB ?_
  exact idxFrom_nonneg p l 0

set_option maxRecDepth 100000 in
theorem block_calls (f : FileM) (d : Dgm) (b : Blk) (hb : b.ok) : APure prog (GK w G) 73 [f.enc, d.enc, b.enc] (.val (.bool (f.block d b))) := by
  refine APure.of func73 rfl fun σ => ?_
  simp only [ntmps73, List.length_cons, List.length_nil, Nat.reduceAdd, Nat.reduceSub, List.replicate_succ, List.replicate_zero, List.cons_append, List.nil_append]
  obtain ⟨kind, op, sub, bn, bx, by', nl, src⟩ := b
  obtain ⟨fnl, ds⟩ := f
  refine AW.regl false [3, 4, 5, 6] (by rfl) fun K1 hK1 => ?_ -- region 0
  simp only [go_sem, Nat.reduceAdd, Nat.reduceEqDiff, Nat.reduceLeDiff, true_and, FileM.enc, Blk.enc, dgm_all, List.length_map]
  refine hK1 _ _ ?_; try clear hK1 K1
  conv => enter [5]; simp only [setL_cons, setL_nil, List.set_cons_zero, List.set_cons_succ]
  refine AW.seq_k fun K2 hK2 => ?_
  refine AW.regtf false 17 (.val (.bool (decide (kind < 0) || decide (kind > 7)))) (by rfl) ?_ ?_ -- region 1
  · skip
    cases h12 : (decide (kind < 0))
    · skip
      simp only [go_sem, Nat.reduceAdd, Nat.reduceEqDiff, Nat.reduceLeDiff, true_and, FileM.enc, Blk.enc, dgm_all, List.length_map, h12]
      try simp [upd_at, h12, FileM.enc, Blk.enc, dgm_all, List.length_map]
    · skip
      simp only [go_sem, Nat.reduceAdd, Nat.reduceEqDiff, Nat.reduceLeDiff, true_and, FileM.enc, Blk.enc, dgm_all, List.length_map, h12]
      try simp [upd_at, h12, FileM.enc, Blk.enc, dgm_all, List.length_map]
  conv => enter [5]; simp only [List.set_cons_zero, List.set_cons_succ]
  refine AW.cond rfl (fun hc17 => ?_) (fun hc17 => ?_)
  · skip
    refine AW.regl false [6] (by rfl) fun K4 hK4 => ?_ -- region 2
    simp only [go_sem, Nat.reduceAdd, Nat.reduceEqDiff, Nat.reduceLeDiff, true_and, FileM.enc, Blk.enc, dgm_all, List.length_map]
    refine hK4 _ _ ?_; try clear hK4 K4
    conv => enter [5]; simp only [setL_cons, setL_nil, List.set_cons_zero, List.set_cons_succ]
    refine AW.ret ⟨.inr rfl, _, rfl, by simp, ?_⟩ -- return 1
    refine frzB ?_
    simp only [FileM.block]
    rw [if_pos hc17]
  · skip
    have h0 : ¬ kind < 0 ∧ ¬ kind > 7 := by simpa using hc17
    obtain ⟨j, rfl⟩ := Int.eq_ofNat_of_zero_le (by omega : 0 ≤ kind)
    have hj : j < kindsT.length := by simp only [kindsT, List.length_cons, List.length_nil]; omega
    obtain ⟨⟨k1, k2, k3, k4⟩, hk⟩ : ∃ k, k = kindsT[j] := ⟨_, rfl⟩
    have hx : (kindsT.map encK)[j]? = some (encK (k1, k2, k3, k4)) := by rw [hk]; simp [hj]
    refine AW.skip ?_
    refine hK2 _ _ ?_; try clear hK2 K2
    refine AW.regl false [7] (by rfl) fun K5 hK5 => ?_ -- region 3
    simp only [go_sem, Nat.reduceAdd, Nat.reduceEqDiff, Nat.reduceLeDiff, true_and, FileM.enc, Blk.enc, dgm_all, List.length_map, opnd_k1, at_sl hx, encK]
    refine hK5 _ _ ?_; try clear hK5 K5
    conv => enter [5]; simp only [setL_cons, setL_nil, List.set_cons_zero, List.set_cons_succ]
    refine AW.regtf false 8 (.val (.bool ((((decide (op ≥ k1) && decide (op ≤ k2)) && decide (bn ≥ 0)) && decide (bn ≤ k3)) && (sub == 0 || (j : Int) == 7)))) (by rfl) ?_ ?_ -- region 4
    · skip
      cases h27 : (decide (op ≥ k1))
      · skip
        simp only [go_sem, Nat.reduceAdd, Nat.reduceEqDiff, Nat.reduceLeDiff, true_and, FileM.enc, Blk.enc, dgm_all, List.length_map, h27]
        try simp [upd_at, h27, FileM.enc, Blk.enc, dgm_all, List.length_map]
      · skip
        cases h33 : (decide (op ≤ k2))
        · skip
          simp only [go_sem, Nat.reduceAdd, Nat.reduceEqDiff, Nat.reduceLeDiff, true_and, FileM.enc, Blk.enc, dgm_all, List.length_map, h27, h33]
          try simp [upd_at, h27, h33, FileM.enc, Blk.enc, dgm_all, List.length_map]
        · skip
          cases h38 : (decide (bn ≥ 0))
          · skip
            simp only [go_sem, Nat.reduceAdd, Nat.reduceEqDiff, Nat.reduceLeDiff, true_and, FileM.enc, Blk.enc, dgm_all, List.length_map, h27, h33, h38]
            try simp [upd_at, h27, h33, h38, FileM.enc, Blk.enc, dgm_all, List.length_map]
          · skip
            cases h45 : (decide (bn ≤ k3))
            · skip
              simp only [go_sem, Nat.reduceAdd, Nat.reduceEqDiff, Nat.reduceLeDiff, true_and, FileM.enc, Blk.enc, dgm_all, List.length_map, h27, h33, h38, h45]
              try simp [upd_at, h27, h33, h38, h45, FileM.enc, Blk.enc, dgm_all, List.length_map]
            · skip
              cases h50 : (sub == 0)
              · skip
                simp only [go_sem, Nat.reduceAdd, Nat.reduceEqDiff, Nat.reduceLeDiff, true_and, FileM.enc, Blk.enc, dgm_all, List.length_map, h27, h33, h38, h45, h50]
                try simp [upd_at, h27, h33, h38, h45, h50, FileM.enc, Blk.enc, dgm_all, List.length_map]
              · skip
                simp only [go_sem, Nat.reduceAdd, Nat.reduceEqDiff, Nat.reduceLeDiff, true_and, FileM.enc, Blk.enc, dgm_all, List.length_map, h27, h33, h38, h45, h50]
                try simp [upd_at, h27, h33, h38, h45, h50, FileM.enc, Blk.enc, dgm_all, List.length_map]
    conv => enter [5]; simp only [List.set_cons_zero, List.set_cons_succ]
    generalize hP8 : (((((decide (op ≥ k1) && decide (op ≤ k2)) && decide (bn ≥ 0)) && decide (bn ≤ k3)) && (sub == 0 || (j : Int) == 7))) = P8
    refine AW.seq_k fun K7 hK7 => ?_
    refine AW.regl false [59] (by rfl) fun K8 hK8 => ?_ -- region 5
    simp only [go_sem, Nat.reduceAdd, Nat.reduceEqDiff, Nat.reduceLeDiff, true_and, FileM.enc, Blk.enc, dgm_all, List.length_map]
    refine hK8 _ _ ?_; try clear hK8 K8
    conv => enter [5]; simp only [setL_cons, setL_nil, List.set_cons_zero, List.set_cons_succ]
    refine AW.cond rfl (fun hc59 => ?_) (fun hc59 => ?_)
    · skip
      refine AW.lasttf false 8 (.val (.bool ((P8 && decide (sub ≥ 0)) && decide (sub < (ds.length : Int))))) (by rfl) ?_ (fun env' hw => ?_) -- region 6
      · skip
        cases h8 : (P8)
        · skip
          simp only [go_sem, Nat.reduceAdd, Nat.reduceEqDiff, Nat.reduceLeDiff, true_and, FileM.enc, Blk.enc, dgm_all, List.length_map, h8]
          try simp [upd_at, h8, FileM.enc, Blk.enc, dgm_all, List.length_map]
        · skip
          cases h64 : (decide (sub ≥ 0))
          · skip
            simp only [go_sem, Nat.reduceAdd, Nat.reduceEqDiff, Nat.reduceLeDiff, true_and, FileM.enc, Blk.enc, dgm_all, List.length_map, h8, h64]
            try simp [upd_at, h8, h64, FileM.enc, Blk.enc, dgm_all, List.length_map]
          · skip
            simp only [go_sem, Nat.reduceAdd, Nat.reduceEqDiff, Nat.reduceLeDiff, true_and, FileM.enc, Blk.enc, dgm_all, List.length_map, h8, h64]
            try simp [upd_at, h8, h64, FileM.enc, Blk.enc, dgm_all, List.length_map]
      simp only [List.set_cons_zero, List.set_cons_succ] at hw
      generalize hP8 : (((P8 && decide (sub ≥ 0)) && decide (sub < (ds.length : Int)))) = P8 at hw ⊢
      refine hK7 _ _ (AW.weaken hw ?_); clear hw; try clear hK7 K7
      refine AW.regtf false 9 (.val (.bool ((src.length : Int) == k4 || (k4 == -1 && decide ((src.length : Int) ≤ 16777215))))) (by rfl) ?_ ?_ -- region 7
      · skip
        cases h79 : ((src.length : Int) == k4)
        · skip
          cases h83 : (k4 == -1)
          · skip
            simp only [go_sem, Nat.reduceAdd, Nat.reduceEqDiff, Nat.reduceLeDiff, true_and, FileM.enc, Blk.enc, dgm_all, List.length_map, h79, h83]
            try simp [upd_at, h79, h83, FileM.enc, Blk.enc, dgm_all, List.length_map]
          · skip
            simp only [go_sem, Nat.reduceAdd, Nat.reduceEqDiff, Nat.reduceLeDiff, true_and, FileM.enc, Blk.enc, dgm_all, List.length_map, h79, h83]
            try simp [upd_at, h79, h83, FileM.enc, Blk.enc, dgm_all, List.length_map]
        · skip
          simp only [go_sem, Nat.reduceAdd, Nat.reduceEqDiff, Nat.reduceLeDiff, true_and, FileM.enc, Blk.enc, dgm_all, List.length_map, h79]
          try simp [upd_at, h79, FileM.enc, Blk.enc, dgm_all, List.length_map]
      conv => enter [5]; simp only [List.set_cons_zero, List.set_cons_succ]
      generalize hP9 : (((src.length : Int) == k4 || (k4 == -1 && decide ((src.length : Int) ≤ 16777215)))) = P9
      refine AW.regtf false 6 (.val (.bool ((P8 && P9) && !(src.any fun s => !FileM.source ⟨fnl, ds⟩ d s)))) (by rfl) ?_ ?_ -- region 8
      · skip
        cases h8 : (P8)
        · skip
          simp only [go_sem, Nat.reduceAdd, Nat.reduceEqDiff, Nat.reduceLeDiff, true_and, FileM.enc, Blk.enc, dgm_all, List.length_map, h8]
          try simp [upd_at, h8, FileM.enc, Blk.enc, dgm_all, List.length_map]
        · skip
          cases h9 : (P9)
          · skip
            simp only [go_sem, Nat.reduceAdd, Nat.reduceEqDiff, Nat.reduceLeDiff, true_and, FileM.enc, Blk.enc, dgm_all, List.length_map, h8, h9]
            try simp [upd_at, h8, h9, FileM.enc, Blk.enc, dgm_all, List.length_map]
          · skip
            simp only [go_sem, Nat.reduceAdd, Nat.reduceEqDiff, Nat.reduceLeDiff, true_and, FileM.enc, Blk.enc, dgm_all, List.length_map, h8, h9]
            refine sC.of en87 (containsFunc87 Src.enc src_get nl src hb 88 en88 _ (fun s => !FileM.source ⟨fnl, ds⟩ d s) _ (fun s _ => block1_calls ⟨fnl, ds⟩ d s (by simp [FileM.enc, AV.cells]) (by simp))).here rfl ?_
            try simp only [go_sem, Nat.reduceAdd, Nat.reduceEqDiff, Nat.reduceLeDiff, true_and, FileM.enc, Blk.enc, dgm_all, List.length_map, h8, h9]
            try simp [upd_at, h8, h9, FileM.enc, Blk.enc, dgm_all, List.length_map]
      conv => enter [5]; simp only [List.set_cons_zero, List.set_cons_succ]
      refine AW.ret ⟨.inr rfl, _, rfl, by simp, ?_⟩ -- return 2
      refine frzB ?_
      subst_vars
      simp only [FileM.block]
      rw [if_neg (ne_true_of_eq_false hc17)]
      simp only [Int.toNat_natCast, List.getElem?_eq_getElem hj, ← hk]
      rw [if_pos hc59]
    · skip
      refine AW.skip ?_
      refine hK7 _ _ ?_; try clear hK7 K7
      refine AW.regtf false 9 (.val (.bool ((src.length : Int) == k4 || (k4 == -1 && decide ((src.length : Int) ≤ 16777215))))) (by rfl) ?_ ?_ -- region 7
      · skip
        cases h79 : ((src.length : Int) == k4)
        · skip
          cases h83 : (k4 == -1)
          · skip
            simp only [go_sem, Nat.reduceAdd, Nat.reduceEqDiff, Nat.reduceLeDiff, true_and, FileM.enc, Blk.enc, dgm_all, List.length_map, h79, h83]
            try simp [upd_at, h79, h83, FileM.enc, Blk.enc, dgm_all, List.length_map]
          · skip
            simp only [go_sem, Nat.reduceAdd, Nat.reduceEqDiff, Nat.reduceLeDiff, true_and, FileM.enc, Blk.enc, dgm_all, List.length_map, h79, h83]
            try simp [upd_at, h79, h83, FileM.enc, Blk.enc, dgm_all, List.length_map]
        · skip
          simp only [go_sem, Nat.reduceAdd, Nat.reduceEqDiff, Nat.reduceLeDiff, true_and, FileM.enc, Blk.enc, dgm_all, List.length_map, h79]
          try simp [upd_at, h79, FileM.enc, Blk.enc, dgm_all, List.length_map]
      conv => enter [5]; simp only [List.set_cons_zero, List.set_cons_succ]
      generalize hP9 : (((src.length : Int) == k4 || (k4 == -1 && decide ((src.length : Int) ≤ 16777215)))) = P9
      refine AW.regtf false 6 (.val (.bool ((P8 && P9) && !(src.any fun s => !FileM.source ⟨fnl, ds⟩ d s)))) (by rfl) ?_ ?_ -- region 8
      · skip
        cases h8 : (P8)
        · skip
          simp only [go_sem, Nat.reduceAdd, Nat.reduceEqDiff, Nat.reduceLeDiff, true_and, FileM.enc, Blk.enc, dgm_all, List.length_map, h8]
          try simp [upd_at, h8, FileM.enc, Blk.enc, dgm_all, List.length_map]
        · skip
          cases h9 : (P9)
          · skip
            simp only [go_sem, Nat.reduceAdd, Nat.reduceEqDiff, Nat.reduceLeDiff, true_and, FileM.enc, Blk.enc, dgm_all, List.length_map, h8, h9]
            try simp [upd_at, h8, h9, FileM.enc, Blk.enc, dgm_all, List.length_map]
          · skip
            simp only [go_sem, Nat.reduceAdd, Nat.reduceEqDiff, Nat.reduceLeDiff, true_and, FileM.enc, Blk.enc, dgm_all, List.length_map, h8, h9]
            refine sC.of en87 (containsFunc87 Src.enc src_get nl src hb 88 en88 _ (fun s => !FileM.source ⟨fnl, ds⟩ d s) _ (fun s _ => block1_calls ⟨fnl, ds⟩ d s (by simp [FileM.enc, AV.cells]) (by simp))).here rfl ?_
            try simp only [go_sem, Nat.reduceAdd, Nat.reduceEqDiff, Nat.reduceLeDiff, true_and, FileM.enc, Blk.enc, dgm_all, List.length_map, h8, h9]
            try simp [upd_at, h8, h9, FileM.enc, Blk.enc, dgm_all, List.length_map]
      conv => enter [5]; simp only [List.set_cons_zero, List.set_cons_succ]
      refine AW.ret ⟨.inr rfl, _, rfl, by simp, ?_⟩ -- return 3
      refine frzB ?_
      subst_vars
      simp only [FileM.block]
      rw [if_neg (ne_true_of_eq_false hc17)]
      simp only [Int.toNat_natCast, List.getElem?_eq_getElem hj, ← hk]
      rw [if_neg (ne_true_of_eq_false hc59)]

set_option maxRecDepth 100000 in
theorem indexFunc85 {α : Type} (en : α → AV) (hen : ∀ a, aGet prog 24 (en a).cells = some (en a)) (nl : Bool) (l : List α) (hl : l.length ≤ maxLen) (g : FuncId) (hg : Enters prog g) (caps : List AV) (p : α → Bool) (σ : Sto) (hp : ∀ a ∈ l, APureOn prog Γ g (en a :: caps) σ (.val (.bool (p a)))) : APureOn prog Γ 85 [rowAV 2 nl (l.map en), .fn g caps] σ (.val (.int .i64 (idxFrom p 0 l))) := by
  refine APureOn.of func85 rfl fun τ => ?_
  simp only [ntmps85, List.length_cons, List.length_nil, Nat.reduceAdd, Nat.reduceSub, List.replicate_succ, List.replicate_zero, List.cons_append, List.nil_append]
  have hp' : ∀ (i : Nat) (h : i < l.length), APureOn prog Γ g (en l[i] :: caps) (σ ++ τ) (.val (.bool (p l[i]))) := fun i h => (hp _ (List.getElem_mem h)).more τ
  generalize σ ++ τ = σ at hp' ⊢
  refine AW.regl false [4] (by rfl) fun K1 hK1 => ?_ -- region 0
  simp only [go_sem, Nat.reduceAdd, Nat.reduceEqDiff, Nat.reduceLeDiff, true_and, List.length_map, hen]
  refine hK1 _ _ ?_; try clear hK1 K1
  conv => enter [5]; simp only [setL_cons, setL_nil, List.set_cons_zero, List.set_cons_succ]
  refine AW.seq_k fun K2 hK2 => ?_
  refine AW.regl false [7, 8] (by rfl) fun K3 hK3 => ?_ -- region 1
  simp only [go_sem, Nat.reduceAdd, Nat.reduceEqDiff, Nat.reduceLeDiff, true_and, List.length_map, hen]
  refine hK3 _ _ ?_; try clear hK3 K3
  conv => enter [5]; simp only [setL_cons, setL_nil, List.set_cons_zero, List.set_cons_succ]
  refine AW.block ?_
  refine AW.loop_wk (α := Nat) (fun i => [(rowAV 2 nl (l.map en)), (.fn g caps), .any, .any, .any, .any, .any, (.val (.int .i64 (l.length : Nat))), (.val (.int .i64 (i : Nat))), .any, .any, .any, .any, .any, .any, .any, .any, .any, .any]) (fun i => σ) (fun i => l.length - i) (fun i => i ≤ l.length ∧ idxFrom p 0 l = idxFrom p i (l.drop i)) 0 ?_ ?_
  · exact ⟨⟨Nat.zero_le _, rfl⟩, by simp [Wk], rfl⟩
  · rintro i ⟨hi, hix⟩
    refine AW.regl false [9] (by rfl) fun K4 hK4 => ?_ -- region 2
    simp only [go_sem, Nat.reduceAdd, Nat.reduceEqDiff, Nat.reduceLeDiff, true_and, List.length_map, hen]
    refine hK4 _ _ ?_; try clear hK4 K4
    conv => enter [5]; simp only [setL_cons, setL_nil, List.set_cons_zero, List.set_cons_succ]
    refine AW.seq_k fun K5 hK5 => ?_
    refine AW.cond rfl (fun hc9 => ?_) (fun hc9 => ?_)
    · skip
      have hc9 : i < l.length := by simpa using hc9
      have hx : (l.map en)[i]? = some (en l[i]) := by simp [hc9]
      rw [idxFrom_drop p l i hc9] at hix
      refine AW.skip ?_
      refine hK5 _ _ ?_; try clear hK5 K5
      refine AW.seq_k fun K6 hK6 => ?_
      refine AW.block ?_
      refine AW.regl false [5] (by rfl) fun K7 hK7 => ?_ -- region 3
      simp only [go_sem, Nat.reduceAdd, Nat.reduceEqDiff, Nat.reduceLeDiff, true_and, List.length_map, hen]
      refine hK7 _ _ ?_; try clear hK7 K7
      conv => enter [5]; simp only [setL_cons, setL_nil, List.set_cons_zero, List.set_cons_succ]
      refine AW.regl false [16] (by rfl) fun K8 hK8 => ?_ -- region 4
      simp only [go_sem, Nat.reduceAdd, Nat.reduceEqDiff, Nat.reduceLeDiff, true_and, List.length_map, hen, at_row hx]
      refine sC.of hg (hp' i hc9).here rfl ?_
      try simp only [go_sem, Nat.reduceAdd, Nat.reduceEqDiff, Nat.reduceLeDiff, true_and, List.length_map, hen, at_row hx]
      refine hK8 _ _ ?_; try clear hK8 K8
      conv => enter [5]; simp only [setL_cons, setL_nil, List.set_cons_zero, List.set_cons_succ]
      refine AW.cond rfl (fun hc16 => ?_) (fun hc16 => ?_)
      · skip
        rw [if_pos hc16] at hix
        refine AW.regl false [4] (by rfl) fun K9 hK9 => ?_ -- region 5
        simp only [go_sem, Nat.reduceAdd, Nat.reduceEqDiff, Nat.reduceLeDiff, true_and, List.length_map, hen]
        refine hK9 _ _ ?_; try clear hK9 K9
        conv => enter [5]; simp only [setL_cons, setL_nil, List.set_cons_zero, List.set_cons_succ]
        refine AW.ret ⟨.inr rfl, _, rfl, by simp, ?_⟩ -- return 1
        refine frzI ?_
        exact hix.symm
      · skip
        rw [if_neg (ne_true_of_eq_false hc16)] at hix
        refine AW.skip ?_
        refine hK6 _ _ ?_; try clear hK6 K6
        refine AW.lastl false [8] (by rfl) fun K hK => ?_ -- region 6
        simp only [go_sem, Nat.reduceAdd, Nat.reduceEqDiff, Nat.reduceLeDiff, true_and, List.length_map, hen]
        refine hK _ _ fun env' hw => ?_
        simp only [setL_cons, setL_nil, List.set_cons_zero, List.set_cons_succ] at hw
        refine ⟨i + 1, by omega, ⟨by omega, hix⟩, ?_, rfl⟩
        refine hw.trans ?_
        simp [Wk, wrap_succ hc9 hl]
    · skip
      have hc : i = l.length := by have : ¬ i < l.length := (by simpa using hc9); omega
      refine AW.exit ?_
      refine hK2 _ _ ?_; try clear hK2 K2
      refine AW.regl false [4] (by rfl) fun K10 hK10 => ?_ -- region 7
      simp only [go_sem, Nat.reduceAdd, Nat.reduceEqDiff, Nat.reduceLeDiff, true_and, List.length_map, hen]
      refine hK10 _ _ ?_; try clear hK10 K10
      conv => enter [5]; simp only [setL_cons, setL_nil, List.set_cons_zero, List.set_cons_succ]
      refine AW.ret ⟨.inr rfl, _, rfl, by simp, ?_⟩ -- return 2
      refine frzI ?_
      rw [hix, hc, List.drop_length]
      rfl

set_option maxRecDepth 100000 in
theorem containsFunc66 {α : Type} (en : α → AV) (hen : ∀ a, aGet prog 24 (en a).cells = some (en a)) (nl : Bool) (l : List α) (hl : l.length ≤ maxLen) (g : FuncId) (hg : Enters prog g) (caps : List AV) (p : α → Bool) (σ : Sto) (hp : ∀ a ∈ l, APureOn prog Γ g (en a :: caps) σ (.val (.bool (p a)))) : APureOn prog Γ 66 [rowAV 2 nl (l.map en), .fn g caps] σ (.val (.bool (l.any p))) := by
  refine APureOn.of func66 rfl fun τ => ?_
  simp only [ntmps66, List.length_cons, List.length_nil, Nat.reduceAdd, Nat.reduceSub, List.replicate_succ, List.replicate_zero, List.cons_append, List.nil_append]
  have hi := (indexFunc85 en hen nl l hl g hg caps p σ hp).more τ
  generalize σ ++ τ = σ at hi ⊢
  refine AW.regl false [4] (by rfl) fun K1 hK1 => ?_ -- region 0
  simp only [go_sem, Nat.reduceAdd, Nat.reduceEqDiff, Nat.reduceLeDiff, true_and]
  refine hK1 _ _ ?_; try clear hK1 K1
  conv => enter [5]; simp only [setL_cons, setL_nil, List.set_cons_zero, List.set_cons_succ]
  refine AW.regl false [4] (by rfl) fun K2 hK2 => ?_ -- region 1
  simp only [go_sem, Nat.reduceAdd, Nat.reduceEqDiff, Nat.reduceLeDiff, true_and]
  refine sC.of en85 (hi).here rfl ?_
  try simp only [go_sem, Nat.reduceAdd, Nat.reduceEqDiff, Nat.reduceLeDiff, true_and]
  refine hK2 _ _ ?_; try clear hK2 K2
  conv => enter [5]; simp only [setL_cons, setL_nil, List.set_cons_zero, List.set_cons_succ]
  refine AW.ret ⟨.inr rfl, _, rfl, by simp, ?_⟩ -- return 1
  refine frzB ?_
  exact idxFrom_nonneg p l 0

set_option maxRecDepth 100000 in
theorem indexFunc86 {α : Type} (en : α → AV) (hen : ∀ a, aGet prog 28 (en a).cells = some (en a)) (nl : Bool) (l : List α) (hl : l.length ≤ maxLen) (g : FuncId) (hg : Enters prog g) (caps : List AV) (p : α → Bool) (σ : Sto) (hp : ∀ a ∈ l, APureOn prog Γ g (en a :: caps) σ (.val (.bool (p a)))) : APureOn prog Γ 86 [rowAV 4 nl (l.map en), .fn g caps] σ (.val (.int .i64 (idxFrom p 0 l))) := by
  refine APureOn.of func86 rfl fun τ => ?_
  simp only [ntmps86, List.length_cons, List.length_nil, Nat.reduceAdd, Nat.reduceSub, List.replicate_succ, List.replicate_zero, List.cons_append, List.nil_append]
  have hp' : ∀ (i : Nat) (h : i < l.length), APureOn prog Γ g (en l[i] :: caps) (σ ++ τ) (.val (.bool (p l[i]))) := fun i h => (hp _ (List.getElem_mem h)).more τ
  generalize σ ++ τ = σ at hp' ⊢
  refine AW.regl false [4] (by rfl) fun K1 hK1 => ?_ -- region 0
  simp only [go_sem, Nat.reduceAdd, Nat.reduceEqDiff, Nat.reduceLeDiff, true_and, List.length_map, hen]
  refine hK1 _ _ ?_; try clear hK1 K1
  conv => enter [5]; simp only [setL_cons, setL_nil, List.set_cons_zero, List.set_cons_succ]
  refine AW.seq_k fun K2 hK2 => ?_
  refine AW.regl false [7, 8] (by rfl) fun K3 hK3 => ?_ -- region 1
  simp only [go_sem, Nat.reduceAdd, Nat.reduceEqDiff, Nat.reduceLeDiff, true_and, List.length_map, hen]
  refine hK3 _ _ ?_; try clear hK3 K3
  conv => enter [5]; simp only [setL_cons, setL_nil, List.set_cons_zero, List.set_cons_succ]
  refine AW.block ?_
  refine AW.loop_wk (α := Nat) (fun i => [(rowAV 4 nl (l.map en)), (.fn g caps), .any, .any, .any, .any, .any, (.val (.int .i64 (l.length : Nat))), (.val (.int .i64 (i : Nat))), .any, .any, .any, .any, .any, .any, .any, .any, .any, .any]) (fun i => σ) (fun i => l.length - i) (fun i => i ≤ l.length ∧ idxFrom p 0 l = idxFrom p i (l.drop i)) 0 ?_ ?_
  · exact ⟨⟨Nat.zero_le _, rfl⟩, by simp [Wk], rfl⟩
  · rintro i ⟨hi, hix⟩
    refine AW.regl false [9] (by rfl) fun K4 hK4 => ?_ -- region 2
    simp only [go_sem, Nat.reduceAdd, Nat.reduceEqDiff, Nat.reduceLeDiff, true_and, List.length_map, hen]
    refine hK4 _ _ ?_; try clear hK4 K4
    conv => enter [5]; simp only [setL_cons, setL_nil, List.set_cons_zero, List.set_cons_succ]
    refine AW.seq_k fun K5 hK5 => ?_
    refine AW.cond rfl (fun hc9 => ?_) (fun hc9 => ?_)
    · skip
      have hc9 : i < l.length := by simpa using hc9
      have hx : (l.map en)[i]? = some (en l[i]) := by simp [hc9]
      rw [idxFrom_drop p l i hc9] at hix
      refine AW.skip ?_
      refine hK5 _ _ ?_; try clear hK5 K5
      refine AW.seq_k fun K6 hK6 => ?_
      refine AW.block ?_
      refine AW.regl false [5] (by rfl) fun K7 hK7 => ?_ -- region 3
      simp only [go_sem, Nat.reduceAdd, Nat.reduceEqDiff, Nat.reduceLeDiff, true_and, List.length_map, hen]
      refine hK7 _ _ ?_; try clear hK7 K7
      conv => enter [5]; simp only [setL_cons, setL_nil, List.set_cons_zero, List.set_cons_succ]
      refine AW.regl false [16] (by rfl) fun K8 hK8 => ?_ -- region 4
      simp only [go_sem, Nat.reduceAdd, Nat.reduceEqDiff, Nat.reduceLeDiff, true_and, List.length_map, hen, at_row hx]
      refine sC.of hg (hp' i hc9).here rfl ?_
      try simp only [go_sem, Nat.reduceAdd, Nat.reduceEqDiff, Nat.reduceLeDiff, true_and, List.length_map, hen, at_row hx]
      refine hK8 _ _ ?_; try clear hK8 K8
      conv => enter [5]; simp only [setL_cons, setL_nil, List.set_cons_zero, List.set_cons_succ]
      refine AW.cond rfl (fun hc16 => ?_) (fun hc16 => ?_)
      · skip
        rw [if_pos hc16] at hix
        refine AW.regl false [4] (by rfl) fun K9 hK9 => ?_ -- region 5
        simp only [go_sem, Nat.reduceAdd, Nat.reduceEqDiff, Nat.reduceLeDiff, true_and, List.length_map, hen]
        refine hK9 _ _ ?_; try clear hK9 K9
        conv => enter [5]; simp only [setL_cons, setL_nil, List.set_cons_zero, List.set_cons_succ]
        refine AW.ret ⟨.inr rfl, _, rfl, by simp, ?_⟩ -- return 1
        refine frzI ?_
        exact hix.symm
      · skip
        rw [if_neg (ne_true_of_eq_false hc16)] at hix
        refine AW.skip ?_
        refine hK6 _ _ ?_; try clear hK6 K6
        refine AW.lastl false [8] (by rfl) fun K hK => ?_ -- region 6
        simp only [go_sem, Nat.reduceAdd, Nat.reduceEqDiff, Nat.reduceLeDiff, true_and, List.length_map, hen]
        refine hK _ _ fun env' hw => ?_
        simp only [setL_cons, setL_nil, List.set_cons_zero, List.set_cons_succ] at hw
        refine ⟨i + 1, by omega, ⟨by omega, hix⟩, ?_, rfl⟩
        refine hw.trans ?_
        simp [Wk, wrap_succ hc9 hl]
    · skip
      have hc : i = l.length := by have : ¬ i < l.length := (by simpa using hc9); omega
      refine AW.exit ?_
      refine hK2 _ _ ?_; try clear hK2 K2
      refine AW.regl false [4] (by rfl) fun K10 hK10 => ?_ -- region 7
      simp only [go_sem, Nat.reduceAdd, Nat.reduceEqDiff, Nat.reduceLeDiff, true_and, List.length_map, hen]
      refine hK10 _ _ ?_; try clear hK10 K10
      conv => enter [5]; simp only [setL_cons, setL_nil, List.set_cons_zero, List.set_cons_succ]
      refine AW.ret ⟨.inr rfl, _, rfl, by simp, ?_⟩ -- return 2
      refine frzI ?_
      rw [hix, hc, List.drop_length]
      rfl

set_option maxRecDepth 100000 in
theorem containsFunc69 {α : Type} (en : α → AV) (hen : ∀ a, aGet prog 28 (en a).cells = some (en a)) (nl : Bool) (l : List α) (hl : l.length ≤ maxLen) (g : FuncId) (hg : Enters prog g) (caps : List AV) (p : α → Bool) (σ : Sto) (hp : ∀ a ∈ l, APureOn prog Γ g (en a :: caps) σ (.val (.bool (p a)))) : APureOn prog Γ 69 [rowAV 4 nl (l.map en), .fn g caps] σ (.val (.bool (l.any p))) := by
  refine APureOn.of func69 rfl fun τ => ?_
  simp only [ntmps69, List.length_cons, List.length_nil, Nat.reduceAdd, Nat.reduceSub, List.replicate_succ, List.replicate_zero, List.cons_append, List.nil_append]
  have hi := (indexFunc86 en hen nl l hl g hg caps p σ hp).more τ
  generalize σ ++ τ = σ at hi ⊢
  refine AW.regl false [4] (by rfl) fun K1 hK1 => ?_ -- region 0
  simp only [go_sem, Nat.reduceAdd, Nat.reduceEqDiff, Nat.reduceLeDiff, true_and]
  refine hK1 _ _ ?_; try clear hK1 K1
  conv => enter [5]; simp only [setL_cons, setL_nil, List.set_cons_zero, List.set_cons_succ]
  refine AW.regl false [4] (by rfl) fun K2 hK2 => ?_ -- region 1
  simp only [go_sem, Nat.reduceAdd, Nat.reduceEqDiff, Nat.reduceLeDiff, true_and]
  refine sC.of en86 (hi).here rfl ?_
  try simp only [go_sem, Nat.reduceAdd, Nat.reduceEqDiff, Nat.reduceLeDiff, true_and]
  refine hK2 _ _ ?_; try clear hK2 K2
  conv => enter [5]; simp only [setL_cons, setL_nil, List.set_cons_zero, List.set_cons_succ]
  refine AW.ret ⟨.inr rfl, _, rfl, by simp, ?_⟩ -- return 1
  refine frzB ?_
  exact idxFrom_nonneg p l 0

set_option maxRecDepth 100000 in
theorem indexFunc77 {α : Type} (en : α → AV) (hen : ∀ a, aGet prog 32 (en a).cells = some (en a)) (nl : Bool) (l : List α) (hl : l.length ≤ maxLen) (g : FuncId) (hg : Enters prog g) (caps : List AV) (p : α → Bool) (σ : Sto) (hp : ∀ a ∈ l, APureOn prog Γ g (en a :: caps) σ (.val (.bool (p a)))) : APureOn prog Γ 77 [rowAV 7 nl (l.map en), .fn g caps] σ (.val (.int .i64 (idxFrom p 0 l))) := by
  refine APureOn.of func77 rfl fun τ => ?_
  simp only [ntmps77, List.length_cons, List.length_nil, Nat.reduceAdd, Nat.reduceSub, List.replicate_succ, List.replicate_zero, List.cons_append, List.nil_append]
  have hp' : ∀ (i : Nat) (h : i < l.length), APureOn prog Γ g (en l[i] :: caps) (σ ++ τ) (.val (.bool (p l[i]))) := fun i h => (hp _ (List.getElem_mem h)).more τ
  generalize σ ++ τ = σ at hp' ⊢
  refine AW.regl false [4] (by rfl) fun K1 hK1 => ?_ -- region 0
  simp only [go_sem, Nat.reduceAdd, Nat.reduceEqDiff, Nat.reduceLeDiff, true_and, List.length_map, hen]
  refine hK1 _ _ ?_; try clear hK1 K1
  conv => enter [5]; simp only [setL_cons, setL_nil, List.set_cons_zero, List.set_cons_succ]
  refine AW.seq_k fun K2 hK2 => ?_
  refine AW.regl false [7, 8] (by rfl) fun K3 hK3 => ?_ -- region 1
  simp only [go_sem, Nat.reduceAdd, Nat.reduceEqDiff, Nat.reduceLeDiff, true_and, List.length_map, hen]
  refine hK3 _ _ ?_; try clear hK3 K3
  conv => enter [5]; simp only [setL_cons, setL_nil, List.set_cons_zero, List.set_cons_succ]
  refine AW.block ?_
  refine AW.loop_wk (α := Nat) (fun i => [(rowAV 7 nl (l.map en)), (.fn g caps), .any, .any, .any, .any, .any, (.val (.int .i64 (l.length : Nat))), (.val (.int .i64 (i : Nat))), .any, .any, .any, .any, .any, .any, .any, .any, .any, .any]) (fun i => σ) (fun i => l.length - i) (fun i => i ≤ l.length ∧ idxFrom p 0 l = idxFrom p i (l.drop i)) 0 ?_ ?_
  · exact ⟨⟨Nat.zero_le _, rfl⟩, by simp [Wk], rfl⟩
  · rintro i ⟨hi, hix⟩
    refine AW.regl false [9] (by rfl) fun K4 hK4 => ?_ -- region 2
    simp only [go_sem, Nat.reduceAdd, Nat.reduceEqDiff, Nat.reduceLeDiff, true_and, List.length_map, hen]
    refine hK4 _ _ ?_; try clear hK4 K4
    conv => enter [5]; simp only [setL_cons, setL_nil, List.set_cons_zero, List.set_cons_succ]
    refine AW.seq_k fun K5 hK5 => ?_
    refine AW.cond rfl (fun hc9 => ?_) (fun hc9 => ?_)
    · skip
      have hc9 : i < l.length := by simpa using hc9
      have hx : (l.map en)[i]? = some (en l[i]) := by simp [hc9]
      rw [idxFrom_drop p l i hc9] at hix
      refine AW.skip ?_
      refine hK5 _ _ ?_; try clear hK5 K5
      refine AW.seq_k fun K6 hK6 => ?_
      refine AW.block ?_
      refine AW.regl false [5] (by rfl) fun K7 hK7 => ?_ -- region 3
      simp only [go_sem, Nat.reduceAdd, Nat.reduceEqDiff, Nat.reduceLeDiff, true_and, List.length_map, hen]
      refine hK7 _ _ ?_; try clear hK7 K7
      conv => enter [5]; simp only [setL_cons, setL_nil, List.set_cons_zero, List.set_cons_succ]
      refine AW.regl false [16] (by rfl) fun K8 hK8 => ?_ -- region 4
      simp only [go_sem, Nat.reduceAdd, Nat.reduceEqDiff, Nat.reduceLeDiff, true_and, List.length_map, hen, at_row hx]
      refine sC.of hg (hp' i hc9).here rfl ?_
      try simp only [go_sem, Nat.reduceAdd, Nat.reduceEqDiff, Nat.reduceLeDiff, true_and, List.length_map, hen, at_row hx]
      refine hK8 _ _ ?_; try clear hK8 K8
      conv => enter [5]; simp only [setL_cons, setL_nil, List.set_cons_zero, List.set_cons_succ]
      refine AW.cond rfl (fun hc16 => ?_) (fun hc16 => ?_)
      · skip
        rw [if_pos hc16] at hix
        refine AW.regl false [4] (by rfl) fun K9 hK9 => ?_ -- region 5
        simp only [go_sem, Nat.reduceAdd, Nat.reduceEqDiff, Nat.reduceLeDiff, true_and, List.length_map, hen]
        refine hK9 _ _ ?_; try clear hK9 K9
        conv => enter [5]; simp only [setL_cons, setL_nil, List.set_cons_zero, List.set_cons_succ]
        refine AW.ret ⟨.inr rfl, _, rfl, by simp, ?_⟩ -- return 1
        refine frzI ?_
        exact hix.symm
      · skip
        rw [if_neg (ne_true_of_eq_false hc16)] at hix
        refine AW.skip ?_
        refine hK6 _ _ ?_; try clear hK6 K6
        refine AW.lastl false [8] (by rfl) fun K hK => ?_ -- region 6
        simp only [go_sem, Nat.reduceAdd, Nat.reduceEqDiff, Nat.reduceLeDiff, true_and, List.length_map, hen]
        refine hK _ _ fun env' hw => ?_
        simp only [setL_cons, setL_nil, List.set_cons_zero, List.set_cons_succ] at hw
        refine ⟨i + 1, by omega, ⟨by omega, hix⟩, ?_, rfl⟩
        refine hw.trans ?_
        simp [Wk, wrap_succ hc9 hl]
    · skip
      have hc : i = l.length := by have : ¬ i < l.length := (by simpa using hc9); omega
      refine AW.exit ?_
      refine hK2 _ _ ?_; try clear hK2 K2
      refine AW.regl false [4] (by rfl) fun K10 hK10 => ?_ -- region 7
      simp only [go_sem, Nat.reduceAdd, Nat.reduceEqDiff, Nat.reduceLeDiff, true_and, List.length_map, hen]
      refine hK10 _ _ ?_; try clear hK10 K10
      conv => enter [5]; simp only [setL_cons, setL_nil, List.set_cons_zero, List.set_cons_succ]
      refine AW.ret ⟨.inr rfl, _, rfl, by simp, ?_⟩ -- return 2
      refine frzI ?_
      rw [hix, hc, List.drop_length]
      rfl

set_option maxRecDepth 100000 in
theorem containsFunc51 {α : Type} (en : α → AV) (hen : ∀ a, aGet prog 32 (en a).cells = some (en a)) (nl : Bool) (l : List α) (hl : l.length ≤ maxLen) (g : FuncId) (hg : Enters prog g) (caps : List AV) (p : α → Bool) (σ : Sto) (hp : ∀ a ∈ l, APureOn prog Γ g (en a :: caps) σ (.val (.bool (p a)))) : APureOn prog Γ 51 [rowAV 7 nl (l.map en), .fn g caps] σ (.val (.bool (l.any p))) := by
  refine APureOn.of func51 rfl fun τ => ?_
  simp only [ntmps51, List.length_cons, List.length_nil, Nat.reduceAdd, Nat.reduceSub, List.replicate_succ, List.replicate_zero, List.cons_append, List.nil_append]
  have hi := (indexFunc77 en hen nl l hl g hg caps p σ hp).more τ
  generalize σ ++ τ = σ at hi ⊢
  refine AW.regl false [4] (by rfl) fun K1 hK1 => ?_ -- region 0
  simp only [go_sem, Nat.reduceAdd, Nat.reduceEqDiff, Nat.reduceLeDiff, true_and]
  refine hK1 _ _ ?_; try clear hK1 K1
  conv => enter [5]; simp only [setL_cons, setL_nil, List.set_cons_zero, List.set_cons_succ]
  refine AW.regl false [4] (by rfl) fun K2 hK2 => ?_ -- region 1
  simp only [go_sem, Nat.reduceAdd, Nat.reduceEqDiff, Nat.reduceLeDiff, true_and]
  refine sC.of en77 (hi).here rfl ?_
  try simp only [go_sem, Nat.reduceAdd, Nat.reduceEqDiff, Nat.reduceLeDiff, true_and]
  refine hK2 _ _ ?_; try clear hK2 K2
  conv => enter [5]; simp only [setL_cons, setL_nil, List.set_cons_zero, List.set_cons_succ]
  refine AW.ret ⟨.inr rfl, _, rfl, by simp, ?_⟩ -- return 1
  refine frzB ?_
  exact idxFrom_nonneg p l 0

set_option maxRecDepth 100000 in
theorem indexFunc65 {α : Type} (en : α → AV) (hen : ∀ a, aGet prog 36 (en a).cells = some (en a)) (nl : Bool) (l : List α) (hl : l.length ≤ maxLen) (g : FuncId) (hg : Enters prog g) (caps : List AV) (p : α → Bool) (σ : Sto) (hp : ∀ a ∈ l, APureOn prog Γ g (en a :: caps) σ (.val (.bool (p a)))) : APureOn prog Γ 65 [rowAV 4 nl (l.map en), .fn g caps] σ (.val (.int .i64 (idxFrom p 0 l))) := by
  refine APureOn.of func65 rfl fun τ => ?_
  simp only [ntmps65, List.length_cons, List.length_nil, Nat.reduceAdd, Nat.reduceSub, List.replicate_succ, List.replicate_zero, List.cons_append, List.nil_append]
  have hp' : ∀ (i : Nat) (h : i < l.length), APureOn prog Γ g (en l[i] :: caps) (σ ++ τ) (.val (.bool (p l[i]))) := fun i h => (hp _ (List.getElem_mem h)).more τ
  generalize σ ++ τ = σ at hp' ⊢
  refine AW.regl false [4] (by rfl) fun K1 hK1 => ?_ -- region 0
  simp only [go_sem, Nat.reduceAdd, Nat.reduceEqDiff, Nat.reduceLeDiff, true_and, List.length_map, hen]
  refine hK1 _ _ ?_; try clear hK1 K1
  conv => enter [5]; simp only [setL_cons, setL_nil, List.set_cons_zero, List.set_cons_succ]
  refine AW.seq_k fun K2 hK2 => ?_
  refine AW.regl false [7, 8] (by rfl) fun K3 hK3 => ?_ -- region 1
  simp only [go_sem, Nat.reduceAdd, Nat.reduceEqDiff, Nat.reduceLeDiff, true_and, List.length_map, hen]
  refine hK3 _ _ ?_; try clear hK3 K3
  conv => enter [5]; simp only [setL_cons, setL_nil, List.set_cons_zero, List.set_cons_succ]
  refine AW.block ?_
  refine AW.loop_wk (α := Nat) (fun i => [(rowAV 4 nl (l.map en)), (.fn g caps), .any, .any, .any, .any, .any, (.val (.int .i64 (l.length : Nat))), (.val (.int .i64 (i : Nat))), .any, .any, .any, .any, .any, .any, .any, .any, .any, .any]) (fun i => σ) (fun i => l.length - i) (fun i => i ≤ l.length ∧ idxFrom p 0 l = idxFrom p i (l.drop i)) 0 ?_ ?_
  · exact ⟨⟨Nat.zero_le _, rfl⟩, by simp [Wk], rfl⟩
  · rintro i ⟨hi, hix⟩
    refine AW.regl false [9] (by rfl) fun K4 hK4 => ?_ -- region 2
    simp only [go_sem, Nat.reduceAdd, Nat.reduceEqDiff, Nat.reduceLeDiff, true_and, List.length_map, hen]
    refine hK4 _ _ ?_; try clear hK4 K4
    conv => enter [5]; simp only [setL_cons, setL_nil, List.set_cons_zero, List.set_cons_succ]
    refine AW.seq_k fun K5 hK5 => ?_
    refine AW.cond rfl (fun hc9 => ?_) (fun hc9 => ?_)
    · skip
      have hc9 : i < l.length := by simpa using hc9
      have hx : (l.map en)[i]? = some (en l[i]) := by simp [hc9]
      rw [idxFrom_drop p l i hc9] at hix
      refine AW.skip ?_
      refine hK5 _ _ ?_; try clear hK5 K5
      refine AW.seq_k fun K6 hK6 => ?_
      refine AW.block ?_
      refine AW.regl false [5] (by rfl) fun K7 hK7 => ?_ -- region 3
      simp only [go_sem, Nat.reduceAdd, Nat.reduceEqDiff, Nat.reduceLeDiff, true_and, List.length_map, hen]
      refine hK7 _ _ ?_; try clear hK7 K7
      conv => enter [5]; simp only [setL_cons, setL_nil, List.set_cons_zero, List.set_cons_succ]
      refine AW.regl false [16] (by rfl) fun K8 hK8 => ?_ -- region 4
      simp only [go_sem, Nat.reduceAdd, Nat.reduceEqDiff, Nat.reduceLeDiff, true_and, List.length_map, hen, at_row hx]
      refine sC.of hg (hp' i hc9).here rfl ?_
      try simp only [go_sem, Nat.reduceAdd, Nat.reduceEqDiff, Nat.reduceLeDiff, true_and, List.length_map, hen, at_row hx]
      refine hK8 _ _ ?_; try clear hK8 K8
      conv => enter [5]; simp only [setL_cons, setL_nil, List.set_cons_zero, List.set_cons_succ]
      refine AW.cond rfl (fun hc16 => ?_) (fun hc16 => ?_)
      · skip
        rw [if_pos hc16] at hix
        refine AW.regl false [4] (by rfl) fun K9 hK9 => ?_ -- region 5
        simp only [go_sem, Nat.reduceAdd, Nat.reduceEqDiff, Nat.reduceLeDiff, true_and, List.length_map, hen]
        refine hK9 _ _ ?_; try clear hK9 K9
        conv => enter [5]; simp only [setL_cons, setL_nil, List.set_cons_zero, List.set_cons_succ]
        refine AW.ret ⟨.inr rfl, _, rfl, by simp, ?_⟩ -- return 1
        refine frzI ?_
        exact hix.symm
      · skip
        rw [if_neg (ne_true_of_eq_false hc16)] at hix
        refine AW.skip ?_
        refine hK6 _ _ ?_; try clear hK6 K6
        refine AW.lastl false [8] (by rfl) fun K hK => ?_ -- region 6
        simp only [go_sem, Nat.reduceAdd, Nat.reduceEqDiff, Nat.reduceLeDiff, true_and, List.length_map, hen]
        refine hK _ _ fun env' hw => ?_
        simp only [setL_cons, setL_nil, List.set_cons_zero, List.set_cons_succ] at hw
        refine ⟨i + 1, by omega, ⟨by omega, hix⟩, ?_, rfl⟩
        refine hw.trans ?_
        simp [Wk, wrap_succ hc9 hl]
    · skip
      have hc : i = l.length := by have : ¬ i < l.length := (by simpa using hc9); omega
      refine AW.exit ?_
      refine hK2 _ _ ?_; try clear hK2 K2
      refine AW.regl false [4] (by rfl) fun K10 hK10 => ?_ -- region 7
      simp only [go_sem, Nat.reduceAdd, Nat.reduceEqDiff, Nat.reduceLeDiff, true_and, List.length_map, hen]
      refine hK10 _ _ ?_; try clear hK10 K10
      conv => enter [5]; simp only [setL_cons, setL_nil, List.set_cons_zero, List.set_cons_succ]
      refine AW.ret ⟨.inr rfl, _, rfl, by simp, ?_⟩ -- return 2
      refine frzI ?_
      rw [hix, hc, List.drop_length]
      rfl

set_option maxRecDepth 100000 in
theorem containsFunc45 {α : Type} (en : α → AV) (hen : ∀ a, aGet prog 36 (en a).cells = some (en a)) (nl : Bool) (l : List α) (hl : l.length ≤ maxLen) (g : FuncId) (hg : Enters prog g) (caps : List AV) (p : α → Bool) (σ : Sto) (hp : ∀ a ∈ l, APureOn prog Γ g (en a :: caps) σ (.val (.bool (p a)))) : APureOn prog Γ 45 [rowAV 4 nl (l.map en), .fn g caps] σ (.val (.bool (l.any p))) := by
  refine APureOn.of func45 rfl fun τ => ?_
  simp only [ntmps45, List.length_cons, List.length_nil, Nat.reduceAdd, Nat.reduceSub, List.replicate_succ, List.replicate_zero, List.cons_append, List.nil_append]
  have hi := (indexFunc65 en hen nl l hl g hg caps p σ hp).more τ
  generalize σ ++ τ = σ at hi ⊢
  refine AW.regl false [4] (by rfl) fun K1 hK1 => ?_ -- region 0
  simp only [go_sem, Nat.reduceAdd, Nat.reduceEqDiff, Nat.reduceLeDiff, true_and]
  refine hK1 _ _ ?_; try clear hK1 K1
  conv => enter [5]; simp only [setL_cons, setL_nil, List.set_cons_zero, List.set_cons_succ]
  refine AW.regl false [4] (by rfl) fun K2 hK2 => ?_ -- region 1
  simp only [go_sem, Nat.reduceAdd, Nat.reduceEqDiff, Nat.reduceLeDiff, true_and]
  refine sC.of en65 (hi).here rfl ?_
  try simp only [go_sem, Nat.reduceAdd, Nat.reduceEqDiff, Nat.reduceLeDiff, true_and]
  refine hK2 _ _ ?_; try clear hK2 K2
  conv => enter [5]; simp only [setL_cons, setL_nil, List.set_cons_zero, List.set_cons_succ]
  refine AW.ret ⟨.inr rfl, _, rfl, by simp, ?_⟩ -- return 1
  refine frzB ?_
  exact idxFrom_nonneg p l 0

set_option maxRecDepth 100000 in
theorem portfn_calls (p : PortM) : APure prog Γ 67 [p.enc] (.val (.bool (!p.right))) := by
  refine APure.of func67 rfl fun σ => ?_
  simp only [ntmps67, List.length_cons, List.length_nil, Nat.reduceAdd, Nat.reduceSub, List.replicate_succ, List.replicate_zero, List.cons_append, List.nil_append]
  refine AW.regl false [1, 2] (by rfl) fun K1 hK1 => ?_ -- region 0
  simp only [go_sem, Nat.reduceAdd, Nat.reduceEqDiff, Nat.reduceLeDiff, true_and, port_all, port_get]
  refine hK1 _ _ ?_; try clear hK1 K1
  conv => enter [5]; simp only [setL_cons, setL_nil, List.set_cons_zero, List.set_cons_succ]
  refine AW.regl false [2] (by rfl) fun K2 hK2 => ?_ -- region 1
  simp only [go_sem, Nat.reduceAdd, Nat.reduceEqDiff, Nat.reduceLeDiff, true_and, port_all, port_get]
  refine sC.of en68 ((port_calls p).on _).here rfl ?_
  try simp only [go_sem, Nat.reduceAdd, Nat.reduceEqDiff, Nat.reduceLeDiff, true_and, port_all, port_get]
  refine hK2 _ _ ?_; try clear hK2 K2
  conv => enter [5]; simp only [setL_cons, setL_nil, List.set_cons_zero, List.set_cons_succ]
  refine AW.ret ⟨.inr rfl, _, rfl, by simp, ?_⟩ -- return 1
  exact .keep rfl

set_option maxRecDepth 100000 in
theorem outfn_calls (f : FileM) (d : Dgm) (o : OutM) {σ : Sto} {o1 o2 : Nat} (h1 : σ[o1]? = some (.cells f.enc.cells)) (h2 : σ[o2]? = some (.cells d.enc.cells)) : APureOn prog Γ 70 [o.enc, .ref o1 0, .ref o2 0] σ (.val (.bool (!o.port.right || !f.source d o.src))) := by
  refine APureOn.of func70 rfl fun τ => ?_
  simp only [ntmps70, List.length_cons, List.length_nil, Nat.reduceAdd, Nat.reduceSub, List.replicate_succ, List.replicate_zero, List.cons_append, List.nil_append]
  have h1' := getL h1 τ
  have h2' := getL h2 τ
  generalize σ ++ τ = σ at h1' h2' ⊢
  have g1 := getL h1'
  have g2 := getL h2'
  refine AW.regl false [3, 4] (by rfl) fun K1 hK1 => ?_ -- region 0
  simp only [go_sem, Nat.reduceAdd, Nat.reduceEqDiff, Nat.reduceLeDiff, true_and, g1, g2, OutM.enc, dgm_get, file_get]
  refine hK1 _ _ ?_; try clear hK1 K1
  conv => enter [5]; simp only [setL_cons, setL_nil, List.set_cons_zero, List.set_cons_succ]
  refine AW.regtf false 4 (.val (.bool (!(o.port.right) || !(f.source d o.src)))) (by rfl) ?_ ?_ -- region 1
  · skip
    cases h7 : (o.port.right)
    · skip
      simp only [go_sem, Nat.reduceAdd, Nat.reduceEqDiff, Nat.reduceLeDiff, true_and, g1, g2, OutM.enc, dgm_get, file_get, h7]
      refine sC.of en68 ((port_calls o.port).on _).here rfl ?_
      try simp only [go_sem, Nat.reduceAdd, Nat.reduceEqDiff, Nat.reduceLeDiff, true_and, g1, g2, OutM.enc, dgm_get, file_get, h7]
      try simp [upd_at, h7, g1, g2, OutM.enc, dgm_get, file_get]
    · skip
      simp only [go_sem, Nat.reduceAdd, Nat.reduceEqDiff, Nat.reduceLeDiff, true_and, g1, g2, OutM.enc, dgm_get, file_get, h7]
      refine sC.of en68 ((port_calls o.port).on _).here rfl ?_
      try simp only [go_sem, Nat.reduceAdd, Nat.reduceEqDiff, Nat.reduceLeDiff, true_and, g1, g2, OutM.enc, dgm_get, file_get, h7]
      refine sC.of en71 ((source_calls f d o.src).on _).here rfl ?_
      try simp only [go_sem, Nat.reduceAdd, Nat.reduceEqDiff, Nat.reduceLeDiff, true_and, g1, g2, OutM.enc, dgm_get, file_get, h7]
      try simp [upd_at, h7, g1, g2, OutM.enc, dgm_get, file_get]
  conv => enter [5]; simp only [List.set_cons_zero, List.set_cons_succ]
  refine AW.ret ⟨.inr rfl, _, rfl, by simp, ?_⟩ -- return 1
  exact .keep rfl

set_option maxRecDepth 100000 in
theorem blockfn_calls (f : FileM) (d : Dgm) (b : Blk) (hb : b.ok) {σ : Sto} {o1 o2 : Nat} (h1 : σ[o1]? = some (.cells f.enc.cells)) (h2 : σ[o2]? = some (.cells d.enc.cells)) : APureOn prog (GK w G) 72 [b.enc, .ref o1 0, .ref o2 0] σ (.val (.bool (!f.block d b))) := by
  refine APureOn.of func72 rfl fun τ => ?_
  simp only [ntmps72, List.length_cons, List.length_nil, Nat.reduceAdd, Nat.reduceSub, List.replicate_succ, List.replicate_zero, List.cons_append, List.nil_append]
  have h1' := getL h1 τ
  have h2' := getL h2 τ
  generalize σ ++ τ = σ at h1' h2' ⊢
  have g1 := getL h1'
  have g2 := getL h2'
  refine AW.regl false [3, 4] (by rfl) fun K1 hK1 => ?_ -- region 0
  simp only [go_sem, Nat.reduceAdd, Nat.reduceEqDiff, Nat.reduceLeDiff, true_and, g1, g2, blk_get, blk_all, dgm_get, file_get]
  refine hK1 _ _ ?_; try clear hK1 K1
  conv => enter [5]; simp only [setL_cons, setL_nil, List.set_cons_zero, List.set_cons_succ]
  refine AW.regl false [4] (by rfl) fun K2 hK2 => ?_ -- region 1
  simp only [go_sem, Nat.reduceAdd, Nat.reduceEqDiff, Nat.reduceLeDiff, true_and, g1, g2, blk_get, blk_all, dgm_get, file_get]
  refine sC.of en73 ((block_calls f d b hb).on _).here rfl ?_
  try simp only [go_sem, Nat.reduceAdd, Nat.reduceEqDiff, Nat.reduceLeDiff, true_and, g1, g2, blk_get, blk_all, dgm_get, file_get]
  refine hK2 _ _ ?_; try clear hK2 K2
  conv => enter [5]; simp only [setL_cons, setL_nil, List.set_cons_zero, List.set_cons_succ]
  refine AW.ret ⟨.inr rfl, _, rfl, by simp, ?_⟩ -- return 1
  exact .keep rfl

set_option maxRecDepth 100000 in
theorem diagram_calls (f : FileM) (d : Dgm) (hd : d.ok) : APure prog (GK w G) 47 [f.enc, d.enc] (.val (.bool (f.diagram d))) := by
  refine APure.of func47 rfl fun σ => ?_
  simp only [ntmps47, List.length_cons, List.length_nil, Nat.reduceAdd, Nat.reduceSub, List.replicate_succ, List.replicate_zero, List.cons_append, List.nil_append]
  obtain ⟨name, nlI, ins, nlO, outs, nlB, blocks⟩ := d
  obtain ⟨d1, ⟨d2, d3⟩, ⟨d4, d5⟩, d6, d7⟩ := hd
  have h2 : Dgm.enc ⟨name, nlI, ins, nlO, outs, nlB, blocks⟩ = .agg [str name, rowAV 2 nlI (ins.map PortM.enc), rowAV 4 nlO (outs.map OutM.enc), rowAV 7 nlB (blocks.map Blk.enc)] := rfl
  refine AW.regl false [2, 3, 4] (by rfl) fun K1 hK1 => ?_ -- region 0
  simp only [go_sem, Nat.reduceAdd, Nat.reduceEqDiff, Nat.reduceLeDiff, true_and, file_all, Dgm.enc, List.length_map]
  refine hK1 _ _ ?_; try clear hK1 K1
  conv => enter [5]; simp only [setL_cons, setL_nil, List.set_cons_zero, List.set_cons_succ]
  refine AW.regtf false 5 (.val (.bool (((decide ((ins.length : Int) ≤ 16777215) && decide ((outs.length : Int) ≤ 16777215)) && decide ((blocks.length : Int) ≤ 16777215)) && decide ((name.size : Int) ≤ 65535)))) (by rfl) ?_ ?_ -- region 1
  · skip
    cases h11 : (decide ((ins.length : Int) ≤ 16777215))
    · skip
      simp only [go_sem, Nat.reduceAdd, Nat.reduceEqDiff, Nat.reduceLeDiff, true_and, file_all, Dgm.enc, List.length_map, h11]
      try simp [upd_at, h11, file_all, Dgm.enc, List.length_map]
    · skip
      cases h16 : (decide ((outs.length : Int) ≤ 16777215))
      · skip
        simp only [go_sem, Nat.reduceAdd, Nat.reduceEqDiff, Nat.reduceLeDiff, true_and, file_all, Dgm.enc, List.length_map, h11, h16]
        try simp [upd_at, h11, h16, file_all, Dgm.enc, List.length_map]
      · skip
        cases h22 : (decide ((blocks.length : Int) ≤ 16777215))
        · skip
          simp only [go_sem, Nat.reduceAdd, Nat.reduceEqDiff, Nat.reduceLeDiff, true_and, file_all, Dgm.enc, List.length_map, h11, h16, h22]
          try simp [upd_at, h11, h16, h22, file_all, Dgm.enc, List.length_map]
        · skip
          simp only [go_sem, Nat.reduceAdd, Nat.reduceEqDiff, Nat.reduceLeDiff, true_and, file_all, Dgm.enc, List.length_map, h11, h16, h22]
          try simp [upd_at, h11, h16, h22, file_all, Dgm.enc, List.length_map]
  conv => enter [5]; simp only [List.set_cons_zero, List.set_cons_succ]
  generalize hP5 : ((((decide ((ins.length : Int) ≤ 16777215) && decide ((outs.length : Int) ≤ 16777215)) && decide ((blocks.length : Int) ≤ 16777215)) && decide ((name.size : Int) ≤ 65535))) = P5
  refine AW.regl false [6] (by rfl) fun K3 hK3 => ?_ -- region 2
  simp only [go_sem, Nat.reduceAdd, Nat.reduceEqDiff, Nat.reduceLeDiff, true_and, file_all, Dgm.enc, List.length_map]
  refine sC.of en66 (containsFunc66 PortM.enc port_get nlI ins d2 67 en67 [] (fun p => !p.right) _ (fun p _ => (portfn_calls p).on _)).here rfl ?_
  try simp only [go_sem, Nat.reduceAdd, Nat.reduceEqDiff, Nat.reduceLeDiff, true_and, file_all, Dgm.enc, List.length_map]
  refine hK3 _ _ ?_; try clear hK3 K3
  conv => enter [5]; simp only [setL_cons, setL_nil, List.set_cons_zero, List.set_cons_succ]
  generalize hP6 : (!(ins.any fun p => !p.right)) = P6
  refine AW.regl false [7] (by rfl) fun K4 hK4 => ?_ -- region 3
  simp only [go_sem, Nat.reduceAdd, Nat.reduceEqDiff, Nat.reduceLeDiff, true_and, file_all, Dgm.enc, List.length_map]
  refine sC.of en69 (containsFunc69 OutM.enc out_get nlO outs d4 70 en70 _ (fun o => (!o.port.right || !f.source ⟨name, nlI, ins, nlO, outs, nlB, blocks⟩ o.src)) _ (fun o _ => outfn_calls f ⟨name, nlI, ins, nlO, outs, nlB, blocks⟩ o (by simp) (by simp [Dgm.enc, AV.cells]))).here rfl ?_
  try simp only [go_sem, Nat.reduceAdd, Nat.reduceEqDiff, Nat.reduceLeDiff, true_and, file_all, Dgm.enc, List.length_map]
  refine hK4 _ _ ?_; try clear hK4 K4
  conv => enter [5]; simp only [setL_cons, setL_nil, List.set_cons_zero, List.set_cons_succ]
  generalize hP7 : (!(outs.any fun o => (!o.port.right || !f.source ⟨name, nlI, ins, nlO, outs, nlB, blocks⟩ o.src))) = P7
  refine AW.regtf false 4 (.val (.bool (((P5 && P6) && P7) && !(blocks.any fun b => !f.block ⟨name, nlI, ins, nlO, outs, nlB, blocks⟩ b)))) (by rfl) ?_ ?_ -- region 4
  · skip
    cases h5 : (P5)
    · skip
      simp only [go_sem, Nat.reduceAdd, Nat.reduceEqDiff, Nat.reduceLeDiff, true_and, file_all, Dgm.enc, List.length_map, h5]
      try simp [upd_at, h5, file_all, Dgm.enc, List.length_map]
    · skip
      cases h6 : (P6)
      · skip
        simp only [go_sem, Nat.reduceAdd, Nat.reduceEqDiff, Nat.reduceLeDiff, true_and, file_all, Dgm.enc, List.length_map, h5, h6]
        try simp [upd_at, h5, h6, file_all, Dgm.enc, List.length_map]
      · skip
        cases h7 : (P7)
        · skip
          simp only [go_sem, Nat.reduceAdd, Nat.reduceEqDiff, Nat.reduceLeDiff, true_and, file_all, Dgm.enc, List.length_map, h5, h6, h7]
          try simp [upd_at, h5, h6, h7, file_all, Dgm.enc, List.length_map]
        · skip
          simp only [go_sem, Nat.reduceAdd, Nat.reduceEqDiff, Nat.reduceLeDiff, true_and, file_all, Dgm.enc, List.length_map, h5, h6, h7]
          refine sC.of en51 (containsFunc51 Blk.enc blk_get nlB blocks d6 72 en72 _ (fun b => !f.block ⟨name, nlI, ins, nlO, outs, nlB, blocks⟩ b) _ (fun b hb => blockfn_calls f ⟨name, nlI, ins, nlO, outs, nlB, blocks⟩ b (d7 b hb) (by simp) (by simp [Dgm.enc, AV.cells]))).here rfl ?_
          try simp only [go_sem, Nat.reduceAdd, Nat.reduceEqDiff, Nat.reduceLeDiff, true_and, file_all, Dgm.enc, List.length_map, h5, h6, h7]
          try simp [upd_at, h5, h6, h7, file_all, Dgm.enc, List.length_map]
  conv => enter [5]; simp only [List.set_cons_zero, List.set_cons_succ]
  refine AW.ret ⟨.inr rfl, _, rfl, by simp, ?_⟩ -- return 1
  refine frzB ?_
  subst_vars
  rfl

set_option maxRecDepth 100000 in
theorem dgmfn_calls (f : FileM) (d : Dgm) (hd : d.ok) {σ : Sto} {o1 : Nat} (h1 : σ[o1]? = some (.cells f.enc.cells)) : APureOn prog (GK w G) 46 [d.enc, .ref o1 0] σ (.val (.bool (!f.diagram d))) := by
  refine APureOn.of func46 rfl fun τ => ?_
  simp only [ntmps46, List.length_cons, List.length_nil, Nat.reduceAdd, Nat.reduceSub, List.replicate_succ, List.replicate_zero, List.cons_append, List.nil_append]
  have h1' := getL h1 τ
  generalize σ ++ τ = σ at h1' ⊢
  have g1 := getL h1'
  refine AW.regl false [2, 3] (by rfl) fun K1 hK1 => ?_ -- region 0
  simp only [go_sem, Nat.reduceAdd, Nat.reduceEqDiff, Nat.reduceLeDiff, true_and, g1, dgm_get, dgm_all, file_get]
  refine hK1 _ _ ?_; try clear hK1 K1
  conv => enter [5]; simp only [setL_cons, setL_nil, List.set_cons_zero, List.set_cons_succ]
  refine AW.regl false [3] (by rfl) fun K2 hK2 => ?_ -- region 1
  simp only [go_sem, Nat.reduceAdd, Nat.reduceEqDiff, Nat.reduceLeDiff, true_and, g1, dgm_get, dgm_all, file_get]
  refine sC.of en47 ((diagram_calls f d hd).on _).here rfl ?_
  try simp only [go_sem, Nat.reduceAdd, Nat.reduceEqDiff, Nat.reduceLeDiff, true_and, g1, dgm_get, dgm_all, file_get]
  refine hK2 _ _ ?_; try clear hK2 K2
  conv => enter [5]; simp only [setL_cons, setL_nil, List.set_cons_zero, List.set_cons_succ]
  refine AW.ret ⟨.inr rfl, _, rfl, by simp, ?_⟩ -- return 1
  exact .keep rfl

set_option maxRecDepth 100000 in
theorem right_calls (f : FileM) (hf : f.ok) : APure prog (GK w G) 27 [f.enc] (.val (.bool f.right)) := by
  refine APure.of func27 rfl fun σ => ?_
  simp only [ntmps27, List.length_cons, List.length_nil, Nat.reduceAdd, Nat.reduceSub, List.replicate_succ, List.replicate_zero, List.cons_append, List.nil_append]
  obtain ⟨fnl, ds⟩ := f
  obtain ⟨f1, f2⟩ := hf
  refine AW.regl false [1, 2] (by rfl) fun K1 hK1 => ?_ -- region 0
  simp only [go_sem, Nat.reduceAdd, Nat.reduceEqDiff, Nat.reduceLeDiff, true_and, FileM.enc, List.length_map]
  refine hK1 _ _ ?_; try clear hK1 K1
  conv => enter [5]; simp only [setL_cons, setL_nil, List.set_cons_zero, List.set_cons_succ]
  refine AW.regtf false 2 (.val (.bool (decide ((ds.length : Int) ≤ 16777215) && !(ds.any fun d => !FileM.diagram ⟨fnl, ds⟩ d)))) (by rfl) ?_ ?_ -- region 1
  · skip
    cases h6 : (decide ((ds.length : Int) ≤ 16777215))
    · skip
      simp only [go_sem, Nat.reduceAdd, Nat.reduceEqDiff, Nat.reduceLeDiff, true_and, FileM.enc, List.length_map, h6]
      try simp [upd_at, h6, FileM.enc, List.length_map]
    · skip
      simp only [go_sem, Nat.reduceAdd, Nat.reduceEqDiff, Nat.reduceLeDiff, true_and, FileM.enc, List.length_map, h6]
      refine sC.of en45 (containsFunc45 Dgm.enc dgm_get fnl ds f1 46 en46 _ (fun d => !FileM.diagram ⟨fnl, ds⟩ d) _ (fun d hd => dgmfn_calls ⟨fnl, ds⟩ d (f2 d hd) (by simp [FileM.enc, AV.cells]))).here rfl ?_
      try simp only [go_sem, Nat.reduceAdd, Nat.reduceEqDiff, Nat.reduceLeDiff, true_and, FileM.enc, List.length_map, h6]
      try simp [upd_at, h6, FileM.enc, List.length_map]
  conv => enter [5]; simp only [List.set_cons_zero, List.set_cons_succ]
  refine AW.ret ⟨.inr rfl, _, rfl, by simp, ?_⟩ -- return 1
  refine frzB ?_
  rfl
end Go.Proofs.Tryd
/-! Flow: plain things that its functions share. -/
namespace Go.Proofs.Ev
set_option linter.unusedSimpArgs false
set_option linter.unusedVariables false
open Go
variable {F : Fr} {P : Program} {Γ : List (Nat × List AV)}
theorem ap_en {α : Type} {en : α → AV} {l : List α} (hl : l.length ≤ 4000) (nl : Bool) {sz b : Nat} (hb : b ≤ 4096) (a : α) (σ : Sto) (k : Nat) : appAt σ nl sz b (l.map en) k [en a] (some (.cap l.length sz)) = some (.slo nl sz ((l ++ [a]).map en) k, σ.set k (.cap (l.length + 1) sz)) := by
  rw [appAt_one σ nl sz b _ k l.length (en a) (by simp) (by
    have h1 : (l.length + 1) * b ≤ 4001 * 4096 := Nat.mul_le_mul (by omega) hb
    simp only [fits, List.length_map, Bool.and_eq_true, decide_eq_true_eq]
    omega)]
  simp
end Go.Proofs.Ev
namespace Go.Proofs.Tryd
open Go Go.Proofs.Ev
namespace Fl
theorem file_cells (f : FileM) : f.enc.cells = [rowAV 4 f.nl (f.ds.map Dgm.enc)] := rfl
theorem dgm_cb (d : Dgm) (n : Nat) : AO.bel n (.cells d.enc.cells) = true := dgm_cbel' d n
theorem blk_cb (b : Blk) (n : Nat) : AO.bel n (.cells b.enc.cells) = true := by
  have := blk_bel b n
  simpa [Blk.enc, AV.bel, AV.cells, AO.bel] using this
theorem ordAV_eq (o : Option (List Nat)) : ordAV o = .tup [rowAV 1 true ((o.getD []).map natA), .val (.bool o.isSome)] := by cases o <;> rfl
/-- On which blocks each block hangs. -/
def hgs (d : Dgm) : List (List Bool) := d.blocks.map (rowF d.blocks.length)
/-- Blocks' diagrams are there. -/
def subOk (f : FileM) (d : Dgm) : Prop := ∀ b ∈ d.blocks, b.kind = 7 → 0 ≤ b.sub ∧ b.sub < (f.ds.length : Int)
/-- How a right block is made. -/
structure WfB (f : FileM) (b : Blk) : Prop where
  lo : 0 ≤ b.kind
  hi : b.kind ≤ 7
  one : b.kind = 2 ∨ b.kind = 4 → b.src.length = 1
  bin : b.kind = 3 → b.src.length = 2 ∧ 1 ≤ b.op ∧ b.op ≤ 15
  two : b.kind = 5 → b.src.length = 2
  three : b.kind = 6 → b.src.length = 3
  sub : b.kind = 7 → 0 ≤ b.sub ∧ b.sub < (f.ds.length : Int)
/-- A source's type, by definition; so many steps. -/
def typB (f : FileM) (g : Src → Int) (b : Blk) (port : Int) : Int :=
  if (b.kind == 0) = true then 0 else if (b.kind == 1) = true then 1 else if ((b.kind == 2) || (b.kind == 4)) = true then b.op
  else if (b.kind == 3) = true then (if decide (b.op ≥ 11) = true then 0 else 1)
  else if (b.kind == 5) = true then (match b.src[0]? with | some s => g s | none => 0)
  else if (b.kind == 6) = true then (match b.src[1]? with | some s => g s | none => 0)
  else match f.ds[b.sub.toNat]? with
    | some e => (match e.outs[port.toNat]? with | some o => o.port.type | none => 0)
    | none => 0
def typ (f : FileM) (d : Dgm) : Nat → Src → Int
  | 0, _ => 0
  | n + 1, s =>
    if ((decide (s.port < 0) || decide (s.block < -1)) || decide (s.block ≥ (d.blocks.length : Int))) = true then -1
    else if (s.block == -1) = true then (if decide (s.port ≥ (d.ins.length : Int)) = true then -1 else match d.ins[s.port.toNat]? with | some p => p.type | none => 0)
    else match d.blocks[s.block.toNat]? with
      | some b => if decide (s.port ≥ f.results b) = true then -1 else typB f (typ f d n) b s.port
      | none => 0
def insT (f : FileM) (b : Blk) : List Int := match f.ds[b.sub.toNat]? with
  | some e => e.ins.map (·.type)
  | none => []
abbrev intA (n : Int) : AV := i64 n
theorem int_bel (x : Int) (n : Nat) : (intA x).bel n = true := rfl
theorem nat_bel (x : Nat) (n : Nat) : (natA x).bel n = true := rfl
theorem str_bel (x : ByteArray) (n : Nat) : (str x).bel n = true := rfl
theorem ap_int {l : List Int} (hl : l.length ≤ 4000) (nl : Bool) (n : Int) (σ : Sto) (k : Nat) : appAt σ nl 1 8 (l.map intA) k [.val (.int .i64 n)] (some (.cap l.length 1)) = some (.slo nl 1 ((l ++ [n]).map intA) k, σ.set k (.cap (l.length + 1) 1)) := ap_en (en := intA) hl nl (by decide) n σ k
def portsN (d : Dgm) : List ByteArray := d.ins.map (·.name) ++ d.outs.map (·.port.name)
def namesM (f : FileM) (i : Nat) (d : Dgm) : Bool := (((portsN d).all A.nameM && decide (portsN d).Nodup) && A.nameM d.name) && decide (findD f.ds d.name = some i)
/-- Names are not too long. -/
structure NmD (d : Dgm) : Prop where
  name : d.name.size ≤ 65535
  ports : ∀ s ∈ portsN d, s.size ≤ 65535
def sumR (f : FileM) (l : List Blk) : Int := (l.map f.results).sum
theorem sumR_snoc {f : FileM} {l : List Blk} {j : Nat} (hj : j < l.length) : sumR f (l.take (j + 1)) = sumR f (l.take j) + f.results l[j] := by
  rw [sumR, List.take_succ_eq_append_getElem hj, List.map_append, List.sum_append]
  simp [sumR]
theorem results_le {f : FileM} {m : Nat} (hm : 1 ≤ m) (h : ∀ d ∈ f.ds, d.outs.length ≤ m) (b : Blk) : 0 ≤ f.results b ∧ f.results b ≤ (m : Int) := by
  unfold FileM.results
  split
  · omega
  split
  · omega
  split
  · omega
  split
  · rename_i d hd
    have := h d (List.mem_of_getElem? hd)
    omega
  · omega
theorem sumR_le {f : FileM} {m : Nat} (hm : 1 ≤ m) (h : ∀ d ∈ f.ds, d.outs.length ≤ m) : ∀ l : List Blk, 0 ≤ sumR f l ∧ sumR f l ≤ (m : Int) * l.length
  | [] => by simp [sumR]
  | b :: l => by
    obtain ⟨h1, h2⟩ := sumR_le hm h l
    obtain ⟨h3, h4⟩ := results_le hm h b
    have e : sumR f (b :: l) = f.results b + sumR f l := by simp [sumR]
    rw [e, List.length_cons, Int.natCast_add, Int.mul_add]
    simp only [Int.natCast_one, Int.mul_one]
    omega
def ordV (o : Option (List Nat)) : AV := .tup [rowAV 1 true ((o.getD []).map natA), .val (.bool o.isSome)]
theorem rowT {T : List Int} {i : Nat} (h : i < T.length) (nl : Bool) (k : IntKind) : aAt 1 (rowAV 1 nl (T.map intA)) (.val (.int k (i : Nat))) = some (.er [i64 (T.getD i 0)]) := by
  have hx : (T.map intA)[i]? = some (intA (T.getD i 0)) := by simp [List.getD_eq_getElem?_getD, h]
  exact at_row hx
theorem rowT0 {T : List Int} (h : 0 < T.length) (nl : Bool) (k : IntKind) : aAt 1 (rowAV 1 nl (T.map intA)) (.val (.int k 0)) = some (.er [i64 (T.getD 0 0)]) := rowT (i := 0) h nl k
theorem rowT1 {T : List Int} (h : 1 < T.length) (nl : Bool) (k : IntKind) : aAt 1 (rowAV 1 nl (T.map intA)) (.val (.int k 1)) = some (.er [i64 (T.getD 1 0)]) := rowT (i := 1) h nl k
theorem rowT2 {T : List Int} (h : 2 < T.length) (nl : Bool) (k : IntKind) : aAt 1 (rowAV 1 nl (T.map intA)) (.val (.int k 2)) = some (.er [i64 (T.getD 2 0)]) := rowT (i := 2) h nl k
def rngB (f : FileM) (d : Dgm) : Bool := d.blocks.all (fun b => decide (b.src.length ≤ 1000)) && (((decide (f.ds.length ≤ 1000) && decide (d.ins.length ≤ 1000)) && decide ((d.outs.length : Int) + sumR f d.blocks ≤ 1000)) && decide (d.outs.length + d.blocks.length ≤ 1000))
def arB (f : FileM) (b : Blk) : Bool := (b.kind == 7) && decide (¬ b.src.length = (insT f b).length)
def dN (d : Dgm) : Nat := d.blocks.length + 1
theorem nodup_snoc {α : Type} {l : List α} {k : Nat} (hk : k < l.length) (h : (l.take k).Nodup) (hn : l[k] ∉ l.take k) : (l.take (k + 1)).Nodup := by
  rw [List.take_succ_eq_append_getElem hk, List.nodup_append]
  refine ⟨h, by simp, fun a ha b hb => ?_⟩
  rw [List.mem_singleton.1 hb]
  rintro rfl
  exact hn ha
theorem not_nodup {α : Type} {l : List α} {j k : Nat} (hjk : j < k) (hk : k < l.length) (h : l[j] = l[k]) : ¬ l.Nodup := fun hd => (List.pairwise_iff_getElem.1 hd j k (by omega) hk hjk) h
theorem all_snoc {α : Type} {p : α → Bool} {l : List α} {k : Nat} (hk : k < l.length) (h : (l.take k).all p = true) (hp : p l[k] = true) : (l.take (k + 1)).all p = true := by
  rw [List.take_succ_eq_append_getElem hk, List.all_append, h]
  simp [hp]
theorem all_at {α : Type} {p : α → Bool} {l : List α} {k : Nat} (hk : k < l.length) (hp : p l[k] = false) : l.all p = false := by
  rw [Bool.eq_false_iff]
  intro h
  have := List.all_eq_true.1 h _ (List.getElem_mem hk)
  rw [hp] at this
  cases this
theorem insT_len {f : FileM} {b : Blk} {u : Nat} {e : Dgm} (hu : b.sub = (u : Int)) (he : f.ds[u]? = some e) : (insT f b).length = e.ins.length := by simp [insT, hu, he]
/-- What is known of a diagram of a right file. -/
structure GoodD (f : FileM) (d : Dgm) : Prop where
  nm : NmD d
  wf : ∀ b ∈ d.blocks, WfB f b
  src : ∀ b ∈ d.blocks, ∀ s ∈ b.src, f.source d s = true
  out : ∀ o ∈ d.outs, f.source d o.src = true
  tin : ∀ p ∈ d.ins, p.type = 0 ∨ p.type = 1
  tout : ∀ o ∈ d.outs, o.port.type = 0 ∨ o.port.type = 1
theorem source_lt {f : FileM} {d : Dgm} {s : Src} (h : f.source d s = true) : s.block < (d.blocks.length : Int) ∧ -1 ≤ s.block ∧ 0 ≤ s.port := by
  unfold FileM.source at h
  split at h
  · rename_i h1
    split at h
    · cases h
    · rename_i h2
      have h2 : ¬ (s.block < 0 ∨ s.block ≥ (d.blocks.length : Int)) := by simpa using h2
      split at h
      · simp at h
        omega
      · cases h
  · rename_i h1
    have : s.block = -1 := by simpa using h1
    simp at h
    omega
theorem GoodD.inB {f : FileM} {d : Dgm} (h : GoodD f d) : inB d := fun b hb s hs => (source_lt (h.src b hb s hs)).1
theorem GoodD.subOk {f : FileM} {d : Dgm} (h : GoodD f d) : subOk f d := fun b hb => (h.wf b hb).sub
theorem beq_nat (a b : Nat) : (((a : Nat) : Int) == ((b : Nat) : Int)) = decide (a = b) := by
  rw [Bool.eq_iff_iff]
  simp
  omega
end Fl
end Go.Proofs.Tryd
/-! Flow: plain things of the program's own functions. -/
namespace Go.Proofs.Ev
set_option linter.unusedSimpArgs false
set_option linter.unusedVariables false
open Go
/-- A function's body; what it left behind is forgotten. -/
theorem ACalls.ofT {P : Program} {Γ : List (Nat × List AV)} {f : FuncId} {fn : Func} {c : Code} {args : List AV} {σ : Sto} {R : AV → Sto → Prop} (hf : P.funcs[f]? = some fn) (hb : fn.body = some c)
    (h : AW .plain P Γ c (args ++ List.replicate (fn.ntmps - args.length) .any) σ (fun e env σ' => (e = .normal ∨ e = .ret) ∧ ∃ v, aReturn P fn σ' env = some v ∧ ∃ σ1 ρ, σ' = σ1 ++ ρ ∧ σ1.length = σ.length ∧ (∀ (i : Nat) (a : AO), σ1[i]? = some a → σ[i]? = some a ∨ a.bel σ.length = true) ∧ v.bel σ.length = true ∧ R v σ1)) : ACalls P Γ f args σ R :=
  ACalls.trunc (ACalls.of (R := fun v σ' => ∃ σ1 ρ, σ' = σ1 ++ ρ ∧ σ1.length = σ.length ∧ (∀ (i : Nat) (a : AO), σ1[i]? = some a → σ[i]? = some a ∨ a.bel σ.length = true) ∧ v.bel σ.length = true ∧ R v σ1) hf hb h) fun _ _ hr => hr
theorem AW.regtdf2 {F : Fr} {P : Program} {Γ : List (Nat × List AV)} (hm : P.follows .mixedOrders = true) (md : Bool) (t : Nat) (v : AV) (t2 : Nat) (v2 : AV) {id : Nat} {l : List Oper} {y : Code} {env : Env} {σ : Sto} {Q : Exit → Env → Sto → Prop} (hb : blockB .any l.toArray 0 l.length = true) (hk : keepB l env [t, t2] = true)
    (h : AQF P Γ md l.toArray σ (fun fe => fe t = v ∧ fe t2 = v2) l (fun t => env.getD t .any)) (k : AW F P Γ y ((env.set t v).set t2 v2) σ Q) : AW F P Γ (.seq (.region id l.toArray true) y) env σ Q := by
  refine AW.seq (AW.drawf (ts := [t, t2]) hm md hb hk (AQF.mono ?_ h))
  rintro fe ⟨rfl, rfl⟩ env' hw
  exact AW.weaken hw k
end Go.Proofs.Ev
namespace Go.Proofs.Tryd
open Go Go.Proofs.Ev
namespace Fl
/-- What the program says of a block's result, of its sources' types. -/
def rul (b : Blk) : Int × Int := rulesT.getD (b.op - 1).toNat (0, 0)
def resM (b : Blk) (t : List Int) : Int × Bool :=
  if (b.kind == 1) = true then (1, true)
  else if (b.kind == 2) = true then (b.op, t.getD 0 0 == b.op)
  else if (b.kind == 4) = true then (b.op, true)
  else if (b.kind == 3) = true then ((rul b).2, t.getD 0 0 == t.getD 1 0 && ((rul b).1 == 2 || (rul b).1 == t.getD 0 0))
  else if (b.kind == 5) = true then (t.getD 0 0, t.getD 0 0 == t.getD 1 0)
  else if (b.kind == 6) = true then (t.getD 1 0, t.getD 0 0 == 1 && t.getD 1 0 == t.getD 2 0)
  else (0, true)
theorem rul_at {b : Blk} (h1 : 1 ≤ b.op) (h2 : b.op ≤ 15) : ∃ q : Nat, b.op - 1 = (q : Int) ∧ (rulesT.map encR)[q]? = some (encR (rul b)) := by
  obtain ⟨q, hq⟩ := Int.eq_ofNat_of_zero_le (show 0 ≤ b.op - 1 by omega)
  refine ⟨q, hq, ?_⟩
  have hl : q < rulesT.length := by simp only [rulesT, List.length_cons, List.length_nil]; omega
  rw [List.getElem?_map, List.getElem?_eq_getElem hl]
  simp only [rul, hq, Int.toNat_natCast, List.getD_eq_getElem?_getD, List.getElem?_eq_getElem hl, Option.map_some, Option.getD_some]
theorem encR_get (r : Int × Int) : aGet prog 162 (encR r).cells = some (encR r) := by simp only [encR, go_sem]
theorem encR_all (r : Int × Int) : (encR r).cells.all AV.one = true := rfl
theorem encR_len (r : Int × Int) : (encR r).cells.length = 2 := rfl
/-- Rows of rows of numbers. -/
def rowN (l : List Nat) : AV := rowAV 1 true (l.map natA)
theorem rowN_len (l : List Nat) : (rowN l).cells.length = 1 := by unfold rowN; cases l <;> rfl
theorem rowN_cells (l : List Nat) : (rowN l).cells = [rowN l] := by unfold rowN; cases l <;> rfl
theorem rowN_bel (l : List Nat) (n : Nat) : (rowN l).bel n = true := row_bel nat_bel _ _ _ _
theorem nat_get (n : Nat) : aGet prog 3 (natA n).cells = some (natA n) := by simp only [natA, AV.cells, go_sem]
def lmat (l : List (List Nat)) (i k : Nat) : Bool := decide (k ∈ l.getD i [])
theorem rdy_any {l : List (List Nat)} {d : List Bool} {i : Nat} (h : ∀ x ∈ l, ∀ k ∈ x, k < l.length) : rdy (lmat l) l.length d i = (!d.getD i false && !((l.getD i []).any fun k => !d.getD k false)) := by
  unfold rdy
  congr 1
  rw [Bool.eq_iff_iff]
  simp only [List.all_eq_true, List.mem_range, Bool.or_eq_true, Bool.not_eq_true', lmat, decide_eq_false_iff_not, List.any_eq_false, Bool.not_eq_true, Bool.not_eq_false']
  constructor
  · intro g k hk
    have hl : k < l.length := by
      rw [List.getD_eq_getElem?_getD] at hk
      cases hi : l[i]? with
      | none => rw [hi] at hk; cases hk
      | some x => rw [hi] at hk; exact h x (List.mem_of_getElem? hi) k hk
    rcases g k hl with g | g
    · simpa using g
    · exact absurd hk g
  · intro g k hk
    by_cases hm : k ∈ l.getD i []
    · exact .inl (by simpa using g k hm)
    · exact .inr hm
theorem nxt_at {R : Nat → Nat → Bool} {n : Nat} {d : List Bool} {i : Nat} (hi : i < n) (h : ∀ j, j < i → rdy R n d j = false) (hr : rdy R n d i = true) : nxt R n d = some i := by
  unfold nxt
  rw [List.find?_range_eq_some]
  exact ⟨hr, List.mem_range.2 hi, fun j hj => by simp [h j hj]⟩
theorem nxt_end {R : Nat → Nat → Bool} {n : Nat} {d : List Bool} (h : ∀ j, j < n → rdy R n d j = false) : nxt R n d = none := by
  unfold nxt
  rw [List.find?_eq_none]
  intro j hj
  simp [h j (List.mem_range.1 hj)]
/-- The blocks on which a block hangs, as the program lists them. -/
def hangB (b : Blk) (l : List Src) : List Nat := (l.filter fun s => (b.kind != 4) && decide (s.block ≥ 0)).map fun s => s.block.toNat
theorem hangB_snoc {b : Blk} {l : List Src} {j : Nat} (hj : j < l.length) : hangB b (l.take (j + 1)) = hangB b (l.take j) ++ (if ((b.kind != 4) && decide (l[j].block ≥ 0)) = true then [l[j].block.toNat] else []) := by
  unfold hangB
  rw [List.take_succ_eq_append_getElem hj, List.filter_append, List.map_append]
  congr 1
  simp only [List.filter_cons, List.filter_nil]
  split <;> simp
def hangL (d : Dgm) : List (List Nat) := d.blocks.map fun b => hangB b b.src
/-- The diagrams that a diagram has, as the program lists them. -/
def subsB (l : List Blk) : List Nat := (l.filter fun b => b.kind == 7).map fun b => b.sub.toNat
def subsL (f : FileM) : List (List Nat) := f.ds.map fun d => subsB d.blocks
/-- What the map of a diagram's sources holds. -/
abbrev MapM := List ((Int × Int) × Int)
def kS (p : Int × Int) : Value := kV [p.1, p.2]
def mapA (M : MapM) : AO := .map (M.map fun e => kS e.1) (M.map fun e => i64 e.2)
def fIdx : MapM → Int × Int → Option Nat
  | [], _ => none
  | e :: l, p => if p = e.1 then some 0 else (fIdx l p).map (· + 1)
def look (M : MapM) (p : Int × Int) : Option Int := (fIdx M p).bind fun i => (M[i]?).map (·.2)
def upd (M : MapM) (p : Int × Int) (v : Int) : MapM := match fIdx M p with
  | some i => M.set i (p, v)
  | none => M ++ [(p, v)]
theorem vKey_kS (p : Int × Int) : vKey (kS p) = some [p.1, p.2] := by
  simp only [kS, kV, vKey]
  exact vInts_map _
theorem aFindA_eq (p : Int × Int) : ∀ (M : MapM) (i : Nat), aFindA [p.1, p.2] (M.map fun e => kS e.1) i = some ((fIdx M p).map (· + i))
  | [], i => rfl
  | e :: M, i => by
    simp only [List.map_cons, aFindA, vKey_kS, List.length_cons, List.length_nil, if_true, fIdx]
    have hp : ([p.1, p.2] = [e.1.1, e.1.2]) ↔ p = e.1 := by
      simp only [List.cons.injEq, and_true]
      exact ⟨fun h => Prod.ext h.1 h.2, fun h => by rw [h]; exact ⟨rfl, rfl⟩⟩
    by_cases h : p = e.1
    · rw [if_pos (hp.2 h), if_pos h]
      simp
    · rw [if_neg (fun g => h (hp.1 g)), if_neg h, aFindA_eq p M (i + 1)]
      cases fIdx M p with
      | none => rfl
      | some j => simp only [Option.map_some, Option.some.injEq]; omega
theorem fIdx_at : ∀ {M : MapM} {p : Int × Int} {i : Nat}, fIdx M p = some i → ∃ h : i < M.length, (M[i]).1 = p
  | [], _, _, h => by cases h
  | e :: M, p, i, h => by
    simp only [fIdx] at h
    split at h
    · rename_i hp
      cases h
      exact ⟨by simp, hp.symm⟩
    · obtain ⟨j, hj, rfl⟩ := Option.map_eq_some_iff.1 h
      obtain ⟨h1, h2⟩ := fIdx_at hj
      exact ⟨by simp; omega, by simpa using h2⟩
theorem fIdx_app (M : MapM) (e : (Int × Int) × Int) (p : Int × Int) : fIdx (M ++ [e]) p = match fIdx M p with | some i => some i | none => if p = e.1 then some M.length else none := by
  induction M with
  | nil => simp only [List.nil_append, fIdx]; split <;> rfl
  | cons x M ih =>
    simp only [List.cons_append, fIdx, ih]
    by_cases h : p = x.1
    · simp [h]
    · simp only [h, if_false]
      cases fIdx M p with
      | none => simp only [Option.map_none]; split <;> simp
      | some j => rfl
theorem fIdx_set : ∀ {M : MapM} {p : Int × Int} {i : Nat} (v : Int), fIdx M p = some i → ∀ q, fIdx (M.set i (p, v)) q = fIdx M q
  | [], _, _, _, h, _ => by cases h
  | e :: M, p, i, v, h, q => by
    simp only [fIdx] at h
    split at h
    · rename_i hp
      cases h
      simp only [List.set_cons_zero, fIdx, hp]
    · obtain ⟨j, hj, rfl⟩ := Option.map_eq_some_iff.1 h
      simp only [List.set_cons_succ, fIdx, fIdx_set v hj q]
theorem fIdx_inj {M : MapM} {p q : Int × Int} {i : Nat} (h1 : fIdx M p = some i) (h2 : fIdx M q = some i) : p = q := by
  obtain ⟨_, a⟩ := fIdx_at h1
  obtain ⟨_, b⟩ := fIdx_at h2
  exact a.symm.trans b
theorem look_upd (M : MapM) (p q : Int × Int) (v : Int) : look (upd M p v) q = if q = p then some v else look M q := by
  unfold upd
  cases h : fIdx M p with
  | none =>
    simp only [look, fIdx_app]
    by_cases e : q = p
    · subst e
      simp [h]
    · simp only [e, if_false]
      cases g : fIdx M q with
      | none => rfl
      | some j =>
        obtain ⟨hj, _⟩ := fIdx_at g
        show ((M ++ [(p, v)])[j]?).map (·.2) = (M[j]?).map (·.2)
        rw [List.getElem?_append_left hj]
  | some i =>
    simp only [look, fIdx_set v h]
    obtain ⟨hi, _⟩ := fIdx_at h
    by_cases e : q = p
    · subst e
      simp [h, hi]
    · simp only [e, if_false]
      cases g : fIdx M q with
      | none => rfl
      | some j =>
        have hne : ¬ i = j := fun he => e (fIdx_inj g (he ▸ h))
        simp [List.getElem?_set, hne]
theorem u88 : prog.underlying 88 = some (.map 26 3) := by kernel_rfl
theorem agg26 : aggK prog 26 2 = true := by kernel_rfl
theorem map_at {σ : Sto} {o : Nat} {M : MapM} (h : σ[o]? = some (mapA M)) : mapParts σ (.mapo o) = some (M.map (fun e => kS e.1), M.map fun e => i64 e.2) := by simp only [mapParts, h, mapA]
set_option maxRecDepth 100000 in
theorem lk88 {σ : Sto} {o : Nat} {M : MapM} (h : σ[o]? = some (mapA M)) (a b : Int) (ok : Bool) : aLookup prog σ 88 ok (.mapo o) (.agg [i64 a, i64 b]) = some (if ok then .tup [i64 ((look M (a, b)).getD 0), .val (.bool (look M (a, b)).isSome)] else i64 ((look M (a, b)).getD 0)) := by
  have hf := aFindA_eq (a, b) M 0
  simp only [aLookup, u88, map_at h, aInts, Option.map_some, List.length_cons, List.length_nil, Nat.zero_add, Nat.reduceAdd, agg26, if_true, hf, zero3, look]
  cases g : fIdx M (a, b) with
  | none => cases ok <;> rfl
  | some i =>
    obtain ⟨hi, _⟩ := fIdx_at g
    simp only [Option.map_some, Nat.add_zero, Option.bind_some, List.getElem?_map, List.getElem?_eq_getElem hi]
    cases ok <;> rfl
theorem lk88f {σ : Sto} {o : Nat} {M : MapM} (h : σ[o]? = some (mapA M)) (a b : Int) : aLookup prog σ 88 false (.mapo o) (.agg [i64 a, i64 b]) = some (i64 ((look M (a, b)).getD 0)) := lk88 h a b false
set_option maxRecDepth 100000 in
theorem up88 {σ : Sto} {o : Nat} {M : MapM} (h : σ[o]? = some (mapA M)) (a b v : Int) : aMapUpd prog σ 88 (.mapo o) (.agg [i64 a, i64 b]) (.val (.int .i64 v)) = some (σ.set o (mapA (upd M (a, b) v))) := by
  have hf := aFindA_eq (a, b) M 0
  simp only [aMapUpd, u88, h, mapA, aInts, Option.map_some, List.length_cons, List.length_nil, Nat.zero_add, Nat.reduceAdd, agg26, if_true, hf, upd]
  cases g : fIdx M (a, b) with
  | none => simp only [Option.map_none, List.map_append, List.map_cons, List.map_nil]; rfl
  | some i =>
    obtain ⟨hi, hp⟩ := fIdx_at g
    simp only [Option.map_some, Nat.add_zero, List.length_map, hi, if_true, List.map_set]
    rw [set_self (l := M.map fun e => kS e.1) (i := i) (a := kS (a, b)) (by rw [List.getElem?_map, List.getElem?_eq_getElem hi, Option.map_some, hp])]
/-- A store in which one map is told anew. -/
def sm (σ : Sto) (om : Nat) (M : MapM) : Sto := σ.set om (mapA M)
theorem sm_len (σ : Sto) (om : Nat) (M : MapM) : (sm σ om M).length = σ.length := by simp [sm]
theorem sm_same {σ : Sto} {om : Nat} {M : MapM} (h : σ[om]? = some (mapA M)) : sm σ om M = σ := set_self h
theorem sm_ne {σ : Sto} {om o : Nat} {M : MapM} {x : AO} (hx : σ[o]? = some x) (h : om ≠ o) (l : Sto) : (sm σ om M ++ l)[o]? = some x := by
  rw [List.getElem?_append_left (by rw [sm_len]; exact (List.getElem?_eq_some_iff.1 hx).1), sm, List.getElem?_set_ne h]
  exact hx
theorem sm_at {σ : Sto} {om : Nat} (h : om < σ.length) (M : MapM) (l : Sto) : (sm σ om M ++ l)[om]? = some (mapA M) := by
  rw [List.getElem?_append_left (by rw [sm_len]; exact h), sm, List.getElem?_set_self h]
theorem sm_set {σ : Sto} {om : Nat} (h : om < σ.length) (M M' : MapM) (l : Sto) : (sm σ om M ++ l).set om (mapA M') = sm σ om M' ++ l := by
  rw [List.set_append_left _ _ (by rw [sm_len]; exact h), sm, sm, List.set_set]
theorem sm_app {σ : Sto} {om : Nat} (h : om < σ.length) (M : MapM) (l : Sto) : sm (σ ++ l) om M = sm σ om M ++ l := by
  rw [sm, sm, List.set_append_left _ _ h]
theorem mkN {n : Nat} (hn : n ≤ 2000) (σ : Sto) (k k1 : IntKind) : aMakeSlice prog σ 85 (.val (.int k (n : Nat))) (.val (.int k1 (n : Nat))) = some (.osl σ.length 0 n 1, σ ++ [.cells (List.replicate n .nilsl)]) := by
  rw [mk85, if_pos ⟨by omega, by simp [fits]; omega⟩, Int.toNat_natCast, Nat.mul_one, aZ]
theorem rowN_still (l : List Nat) : (rowN l).still = rowN l := by unfold rowN; cases l <;> rfl
theorem ap_natN {l : List Nat} (hl : l.length ≤ 4000) (nl : Bool) (n : Nat) (σ : Sto) (k : Nat) : appAt σ nl 1 8 (l.map natA) k [.val (.int .i64 ((n : Nat) : Int))] (some (.cap l.length 1)) = some (.slo nl 1 ((l ++ [n]).map natA) k, σ.set k (.cap (l.length + 1) 1)) := ap_en (en := natA) hl nl (by decide) n σ k
end Fl
end Go.Proofs.Tryd
/-! Flow: function 36. -/
namespace Go.Proofs.Tryd
set_option linter.unusedSimpArgs false
set_option linter.unusedVariables false
open Go Go.Proofs.Ev
namespace Fl
variable {Γ : List (Nat × List AV)} {w : AV} {G : List (Nat × List AV)}
end Fl
end Go.Proofs.Tryd
