import Derived.Test.YtnjehllmlheagaaDoorFkTy
import Derived.Test.YtnjehllmlheagaaDoorFkEvIdx
import Derived.Test.YtnjehllmlheagaaDoorFkEvDraw4
import Derived.Test.YtnjehllmlheagaaDoorFkEvCut
import Derived.Test.YtnjehllmlheagaaDoorTie
import Derived.Test.YtnjehllmlheagaaDoorCards
import Derived.Test.YtnjehllmlheagaaDoorFkEvRow
import Derived.Test.YtnjehllmlheagaaDoorFkEvBulk
import Derived.Lib.SmallJoins
import Derived.Deep.DeepWitnessRowRef
import Derived.WideKeyElems2
import Derived.Maps.Range
import Derived.Test.YtnjehllmlheagaaDoorFkEvDraw3
import Derived.Test.YtnjehllmlheagaaDoorFkEvDec
import Derived.Test.YtnjehllmlheagaaDoorFkEvMore
import Derived.Test.YtnjehllmlheagaaDoorFkEvFrz
import Derived.Test.YtnjehllmlheagaaDoorFkEvList
import Derived.Test.YtnjehllmlheagaaDoorFkEvChain
import Derived.Test.YtnjehllmlheagaaDoorFkEvPair
/-! Diagrams as plain things. -/
namespace Go.Proofs.Tryd
set_option linter.unusedSimpArgs false
set_option linter.unusedVariables false
open Go Go.Proofs.Ev
abbrev i64 (n : Int) : AV := .val (.int .i64 n)
abbrev str (s : ByteArray) : AV := .val (.string s)
structure Src where
 block : Int
 port : Int
structure PortM where
 name : ByteArray
 type : Int
structure OutM where
 port : PortM
 src : Src
structure Blk where
 kind : Int
 op : Int
 sub : Int
 n : Int
 x : Int
 y : Int
 nl : Bool
 src : List Src
structure Dgm where
 name : ByteArray
 nlI : Bool
 ins : List PortM
 nlO : Bool
 outs : List OutM
 nlB : Bool
 blocks : List Blk
structure FileM where
 nl : Bool
 ds : List Dgm
def Src.enc (s : Src) : AV := .agg [i64 s.block, i64 s.port]
def PortM.enc (p : PortM) : AV := .agg [str p.name, i64 p.type]
def OutM.enc (o : OutM) : AV := .agg [str o.port.name, i64 o.port.type, i64 o.src.block, i64 o.src.port]
def Blk.enc (b : Blk) : AV := .agg [i64 b.kind, i64 b.op, i64 b.sub, i64 b.n, .val (.int .i32 b.x), .val (.int .i32 b.y), rowAV 2 b.nl (b.src.map Src.enc)]
def Dgm.enc (d : Dgm) : AV := .agg [str d.name, rowAV 2 d.nlI (d.ins.map PortM.enc), rowAV 4 d.nlO (d.outs.map OutM.enc), rowAV 7 d.nlB (d.blocks.map Blk.enc)]
def FileM.enc (f : FileM) : AV := .agg [rowAV 4 f.nl (f.ds.map Dgm.enc)]
def Blk.ok (b : Blk) : Prop := b.src.length ≤ maxLen
def Dgm.ok (d : Dgm) : Prop := d.name.size ≤ maxLen ∧ (d.ins.length ≤ maxLen ∧ ∀ p ∈ d.ins, p.name.size ≤ maxLen) ∧ (d.outs.length ≤ maxLen ∧ ∀ o ∈ d.outs, o.port.name.size ≤ maxLen) ∧ d.blocks.length ≤ maxLen ∧ ∀ b ∈ d.blocks, b.ok
def FileM.ok (f : FileM) : Prop := f.ds.length ≤ maxLen ∧ ∀ d ∈ f.ds, d.ok
def FileM.results (f : FileM) (b : Blk) : Int :=
 if (decide (b.kind < 0) || decide (b.kind > 7)) then 0
 else if decide (b.kind < 7) then 1
 else if (decide (b.sub < 0) || decide (b.sub ≥ (f.ds.length : Int))) then 0
 else match f.ds[b.sub.toNat]? with
  | some d => d.outs.length
  | none => 0
def FileM.source (f : FileM) (d : Dgm) (s : Src) : Bool :=
 if (s.block != -1) then
  if (decide (s.block < 0) || decide (s.block ≥ (d.blocks.length : Int))) then false
  else match d.blocks[s.block.toNat]? with
   | some b => decide (s.port ≥ 0) && decide (s.port < f.results b)
   | none => false
 else decide (s.port ≥ 0) && decide (s.port < (d.ins.length : Int))
def kindsT : List (Int × Int × Int × Int) := [(0, 0, 9223372036854775807, 0), (0, 0, 1, 0), (0, 1, 0, 1), (1, 15, 0, 2), (0, 1, 0, 1), (0, 0, 0, 2), (0, 0, 0, 3), (0, 0, 0, -1)]
def encK (k : Int × Int × Int × Int) : AV := .agg [i64 k.1, i64 k.2.1, i64 k.2.2.1, i64 k.2.2.2]
def rulesT : List (Int × Int) := [(1, 1), (1, 1), (1, 1), (1, 1), (2, 1), (2, 1), (0, 1), (0, 1), (0, 1), (0, 1), (0, 0), (0, 0), (0, 0), (0, 0), (0, 0)]
def encR (k : Int × Int) : AV := .agg [i64 k.1, i64 k.2]
/-- What the package variables are: the kinds of blocks, the rules of ops, the words; and more. -/
abbrev GK (w : AV) (G : List (Nat × List AV)) : List (Nat × List AV) := (0, [.sl 4 (kindsT.map encK)]) :: (1, [.sl 2 (rulesT.map encR)]) :: (2, [w]) :: G
variable {w : AV} {G : List (Nat × List AV)}
def FileM.block (f : FileM) (d : Dgm) (b : Blk) : Bool :=
 if (decide (b.kind < 0) || decide (b.kind > 7)) then false
 else match kindsT[b.kind.toNat]? with
  | none => false
  | some k =>
   let parts := ((((decide (b.op ≥ k.1) && decide (b.op ≤ k.2.1)) && decide (b.n ≥ 0)) && decide (b.n ≤ k.2.2.1)) && ((b.sub == 0) || (b.kind == 7)))
   let parts := if (b.kind == 7) then ((parts && decide (b.sub ≥ 0)) && decide (b.sub < (f.ds.length : Int))) else parts
   let many := (((b.src.length : Int) == k.2.2.2) || ((k.2.2.2 == -1) && decide ((b.src.length : Int) ≤ 16777215)))
   (parts && many) && !(b.src.any fun s => !f.source d s)
def PortM.right (p : PortM) : Bool := ((decide ((p.name.size : Int) ≤ 65535) && decide (p.type ≥ 0)) && decide (p.type ≤ 1))
def FileM.diagram (f : FileM) (d : Dgm) : Bool :=
 let lists := (((decide ((d.ins.length : Int) ≤ 16777215) && decide ((d.outs.length : Int) ≤ 16777215)) && decide ((d.blocks.length : Int) ≤ 16777215)) && decide ((d.name.size : Int) ≤ 65535))
 let ins := !(d.ins.any fun p => !p.right)
 let outs := !(d.outs.any fun o => (!o.port.right || !f.source d o.src))
 ((lists && ins) && outs) && !(d.blocks.any fun b => !f.block d b)
def FileM.right (f : FileM) : Bool := decide ((f.ds.length : Int) ≤ 16777215) && !(f.ds.any fun d => !f.diagram d)
theorem src_get (s : Src) : aGet prog 26 s.enc.cells = some s.enc := by simp only [Src.enc, go_sem]
theorem port_get (s : PortM) : aGet prog 24 s.enc.cells = some s.enc := by simp only [PortM.enc, go_sem]
theorem out_get (s : OutM) : aGet prog 28 s.enc.cells = some s.enc := by simp only [OutM.enc, go_sem]
theorem blk_get (s : Blk) : aGet prog 32 s.enc.cells = some s.enc := by simp only [Blk.enc, go_sem]
theorem dgm_get (s : Dgm) : aGet prog 36 s.enc.cells = some s.enc := by simp only [Dgm.enc, go_sem]
theorem file_get (s : FileM) : aGet prog 39 s.enc.cells = some s.enc := by simp only [FileM.enc, go_sem]
theorem src_all (s : Src) : s.enc.cells.all AV.one = true := rfl
theorem port_all (s : PortM) : s.enc.cells.all AV.one = true := rfl
theorem out_all (s : OutM) : s.enc.cells.all AV.one = true := rfl
theorem blk_all (s : Blk) : s.enc.cells.all AV.one = true := by simp only [Blk.enc, go_sem]
theorem dgm_all (s : Dgm) : s.enc.cells.all AV.one = true := by simp only [Dgm.enc, go_sem]
theorem file_all (s : FileM) : s.enc.cells.all AV.one = true := by simp only [FileM.enc, go_sem]
theorem opnd_k1 (env : Env) : opnd (GK w G) env (.global 0) = .er [.sl 4 (kindsT.map encK)] := rfl
theorem opnd_k2 (env : Env) : opnd (GK w G) env (.global 1) = .er [.sl 2 (rulesT.map encR)] := rfl
end Go.Proofs.Tryd
/-! Names. -/
namespace Go.Proofs.Tryd
set_option linter.unusedSimpArgs false
set_option linter.unusedVariables false
open Go Go.Proofs.Ev
namespace A
abbrev bool (b : Bool) : AV := .val (.bool b)
variable {Γ : List (Nat × List AV)}
attribute [local go_sem] true_and
def words : List ByteArray := [⟨#[97, 110, 100]⟩, ⟨#[98, 111, 111, 108]⟩, ⟨#[99, 111, 110, 115, 116]⟩, ⟨#[100, 105, 118]⟩, ⟨#[101, 108, 115, 101]⟩, ⟨#[102, 97, 108, 115, 101]⟩, ⟨#[105, 102]⟩, ⟨#[105, 110, 116]⟩, ⟨#[108, 101, 116]⟩, ⟨#[109, 111, 100]⟩, ⟨#[110, 111, 100, 101]⟩, ⟨#[110, 111, 116]⟩, ⟨#[111, 114]⟩, ⟨#[112, 114, 101]⟩, ⟨#[114, 101, 116, 117, 114, 110, 115]⟩, ⟨#[116, 101, 108]⟩, ⟨#[116, 104, 101, 110]⟩, ⟨#[116, 114, 117, 101]⟩, ⟨#[118, 97, 114]⟩, ⟨#[120, 111, 114]⟩]
def wordM (s : ByteArray) : Bool := (findS words s).isSome
/-- The table of words stands there. -/
def Words (Γ : List (Nat × List AV)) : Prop := ∃ ks : List ByteArray, opnd Γ [] (.global 2) = .er [.mapf (ks.map Value.string) (List.replicate ks.length (bool true))] ∧ ∀ s, (findS ks s).isSome = wordM s
def letter (c : UInt8) : Bool := (((c.toNat : Int) == 95) || (decide ((c.toNat : Int) ≥ 97) && decide ((c.toNat : Int) ≤ 122))) || (decide ((c.toNat : Int) ≥ 65) && decide ((c.toNat : Int) ≤ 90))
def digit (c : UInt8) : Bool := decide ((c.toNat : Int) ≥ 48) && decide ((c.toNat : Int) ≤ 57)
def okFrom : Nat → List UInt8 → Bool
 | _, [] => true
 | i, c :: l => (letter c || (decide (0 < i) && digit c)) && okFrom (i + 1) l
def nameM (s : ByteArray) : Bool := (!(decide (s = ⟨#[]⟩) || decide ((s.size : Int) > 60) || wordM s)) && okFrom 0 s.data.toList
theorem okFrom_drop {l : List UInt8} {i : Nat} (h : i < l.length) : okFrom i (l.drop i) = ((letter l[i] || (decide (0 < i) && digit l[i])) && okFrom (i + 1) (l.drop (i + 1))) := by
 rw [List.drop_eq_getElem_cons h]
 rfl
theorem ba_len (s : ByteArray) : s.data.toList.length = s.size := rfl
theorem ba_get (s : ByteArray) {i : Nat} (h : i < s.size) : s[i]'h = s.data.toList[i]'h := rfl
theorem lk_words (ks : List ByteArray) (T : TypeId) {et : TypeId} (hT : prog.underlying T = some (.map 9 et)) (hz : aZero prog et = some (bool false)) (σ : Sto) (s : ByteArray) : aLookup prog σ T false (.mapf (ks.map Value.string) (List.replicate ks.length (bool true))) (str s) = some (bool (findS ks s).isSome) := by
 have hp : mapParts σ (.mapf (ks.map Value.string) (List.replicate ks.length (bool true))) = some (ks.map Value.string, List.replicate ks.length (bool true)) := rfl
 have hk : prog.underlying 9 = some .string := by kernel_rfl
 simp only [aLookup, hT, hp, hk, plainK, if_true, aFindK_str, hz]
 cases h : findS ks s with
 | none => rfl
 | some i =>
  have hi := (findS_lt h).1
  simp only [List.getElem?_replicate, Option.map, Bool.false_eq_true, if_false, Option.isSome, Nat.add_zero]
  rw [if_pos hi]
theorem parts_of {sz : Nat} {parts : List (Nat × AV)} (h : (parts.all fun p => (p.2.cells.length == sz) && p.2.cells.all AV.one) = true) : ∀ p ∈ parts, p.2.cells.length = sz ∧ p.2.cells.all AV.one = true := fun p hp => by
 have := List.all_eq_true.1 h p hp
 simpa using this
theorem row20 (σ : Sto) : aRow prog false σ 154 20 [(0, str ⟨#[97, 110, 100]⟩), (1, str ⟨#[98, 111, 111, 108]⟩), (2, str ⟨#[99, 111, 110, 115, 116]⟩), (3, str ⟨#[100, 105, 118]⟩), (4, str ⟨#[101, 108, 115, 101]⟩), (5, str ⟨#[102, 97, 108, 115, 101]⟩), (6, str ⟨#[105, 102]⟩), (7, str ⟨#[105, 110, 116]⟩), (8, str ⟨#[108, 101, 116]⟩), (9, str ⟨#[109, 111, 100]⟩), (10, str ⟨#[110, 111, 100, 101]⟩), (11, str ⟨#[110, 111, 116]⟩), (12, str ⟨#[111, 114]⟩), (13, str ⟨#[112, 114, 101]⟩), (14, str ⟨#[114, 101, 116, 117, 114, 110, 115]⟩), (15, str ⟨#[116, 101, 108]⟩), (16, str ⟨#[116, 104, 101, 110]⟩), (17, str ⟨#[116, 114, 117, 101]⟩), (18, str ⟨#[118, 97, 114]⟩), (19, str ⟨#[120, 111, 114]⟩)] = some (.sl 1 (words.map str), σ) := aRow_sl (by kernel_rfl) (by decide) (row154 (by decide) (by decide) rfl (parts_of rfl)) σ
theorem findS_mem : ∀ {l : List ByteArray} {i : Nat} (h : i < l.length), (findS l l[i]).isSome = true
 | a :: l, 0, _ => by simp [findS]
 | a :: l, i + 1, h => by
  have := findS_mem (l := l) (i := i) (by simpa using h)
  simp only [findS, List.getElem_cons_succ]
  split
  ·rfl
  ·simpa using this
theorem findS_take {l : List ByteArray} {s : ByteArray} {i : Nat} (h : i < l.length) (h1 : findS (l.take i) s = none) (h2 : ¬ s = l[i]) : findS (l.take (i + 1)) s = none := by
 induction l generalizing i with
 | nil => simp at h
 | cons a l ih =>
  cases i with
  | zero =>
   simp only [List.take_succ_cons, List.take_zero, findS, List.getElem_cons_zero] at h2 ⊢
   rw [if_neg h2]
   rfl
  | succ i =>
   simp only [List.take_succ_cons, findS, List.getElem_cons_succ] at h1 h2 ⊢
   split at h1
   ·cases h1
   ·rename_i hne
    rw [if_neg hne, ih (by simpa using h) (by simpa using h1) h2]
    rfl
set_option maxRecDepth 100000 in
theorem letter_calls (c : UInt8) : APure prog Γ 90 [.val (.int .u8 ((c.toNat : Nat) : Int))] (.val (.bool (letter c))) := by
 refine APure.of func90 rfl fun σ => ?_
 simp only [ntmps90, List.length_cons, List.length_nil, Nat.reduceAdd, Nat.reduceSub, List.replicate_succ, List.replicate_zero, List.cons_append, List.nil_append]
 refine AW.regl false [2] (by rfl) fun K1 hK1 => ?_
 simp only [go_sem, Nat.reduceAdd, Nat.reduceEqDiff, Nat.reduceLeDiff]
 refine hK1 _ _ ?_
 conv => enter [5]; simp only [sl1, sl0, sz0, sz1]
 refine AW.regtf false 2 (.val (.bool (((((c.toNat : Nat) : Int) == 95) || ((decide (((c.toNat : Nat) : Int) ≥ 97)) && (decide (((c.toNat : Nat) : Int) ≤ 122)))) || ((decide (((c.toNat : Nat) : Int) ≥ 65)) && (decide (((c.toNat : Nat) : Int) ≤ 90)))))) (by rfl) ?_ ?_
 ·skip
  cases h4 : ((((c.toNat : Nat) : Int) == 95))
  ·skip
   cases h7 : ((decide (((c.toNat : Nat) : Int) ≥ 97)))
   ·skip
    cases h15 : ((decide (((c.toNat : Nat) : Int) ≥ 65)))
    ·skip
     simp only [go_sem, Nat.reduceAdd, Nat.reduceEqDiff, Nat.reduceLeDiff, h4, h7, h15]
     try simp [upd_at, h4, h7, h15]
    ·skip
     simp only [go_sem, Nat.reduceAdd, Nat.reduceEqDiff, Nat.reduceLeDiff, h4, h7, h15]
     try simp [upd_at, h4, h7, h15]
   ·skip
    cases h10 : ((decide (((c.toNat : Nat) : Int) ≤ 122)))
    ·skip
     cases h15 : ((decide (((c.toNat : Nat) : Int) ≥ 65)))
     ·skip
      simp only [go_sem, Nat.reduceAdd, Nat.reduceEqDiff, Nat.reduceLeDiff, h4, h7, h10, h15]
      try simp [upd_at, h4, h7, h10, h15]
     ·skip
      simp only [go_sem, Nat.reduceAdd, Nat.reduceEqDiff, Nat.reduceLeDiff, h4, h7, h10, h15]
      try simp [upd_at, h4, h7, h10, h15]
    ·skip
     simp only [go_sem, Nat.reduceAdd, Nat.reduceEqDiff, Nat.reduceLeDiff, h4, h7, h10]
     try simp [upd_at, h4, h7, h10]
  ·skip
   simp only [go_sem, Nat.reduceAdd, Nat.reduceEqDiff, Nat.reduceLeDiff, h4]
   try simp [upd_at, h4]
 conv => enter [5]; simp only [sz0, sz1]
 refine AW.ret ⟨.inr rfl, _, rfl, by simp, ?_⟩
 refine frzB ?_
 rfl

set_option maxRecDepth 100000 in
theorem digit_calls (c : UInt8) : APure prog Γ 91 [.val (.int .u8 ((c.toNat : Nat) : Int))] (.val (.bool (digit c))) := by
 refine APure.of func91 rfl fun σ => ?_
 simp only [ntmps91, List.length_cons, List.length_nil, Nat.reduceAdd, Nat.reduceSub, List.replicate_succ, List.replicate_zero, List.cons_append, List.nil_append]
 refine AW.regl false [2] (by rfl) fun K1 hK1 => ?_
 simp only [go_sem, Nat.reduceAdd, Nat.reduceEqDiff, Nat.reduceLeDiff]
 refine hK1 _ _ ?_
 conv => enter [5]; simp only [sl1, sl0, sz0, sz1]
 refine AW.regtf false 2 (.val (.bool ((decide (((c.toNat : Nat) : Int) ≥ 48)) && (decide (((c.toNat : Nat) : Int) ≤ 57))))) (by rfl) ?_ ?_
 ·skip
  cases h4 : ((decide (((c.toNat : Nat) : Int) ≥ 48)))
  ·skip
   simp only [go_sem, Nat.reduceAdd, Nat.reduceEqDiff, Nat.reduceLeDiff, h4]
   try simp [upd_at, h4]
  ·skip
   simp only [go_sem, Nat.reduceAdd, Nat.reduceEqDiff, Nat.reduceLeDiff, h4]
   try simp [upd_at, h4]
 conv => enter [5]; simp only [sz0, sz1]
 refine AW.ret ⟨.inr rfl, _, rfl, by simp, ?_⟩
 refine frzB ?_
 rfl

set_option maxRecDepth 100000 in
theorem word_calls (hΓ : Words Γ) (s : ByteArray) : APure prog Γ 89 [.val (.string s)] (.val (.bool (wordM s))) := by
 refine APure.of func89 rfl fun σ => ?_
 simp only [ntmps89, List.length_cons, List.length_nil, Nat.reduceAdd, Nat.reduceSub, List.replicate_succ, List.replicate_zero, List.cons_append, List.nil_append]
 obtain ⟨ks, hΓ, hks⟩ := hΓ
 refine AW.regl false [2] (by rfl) fun K1 hK1 => ?_
 simp only [go_sem, Nat.reduceAdd, Nat.reduceEqDiff, Nat.reduceLeDiff, hΓ]
 refine hK1 _ _ ?_
 conv => enter [5]; simp only [sl1, sl0, sz0, sz1]
 refine AW.regl false [2] (by rfl) fun K2 hK2 => ?_
 simp only [go_sem, Nat.reduceAdd, Nat.reduceEqDiff, Nat.reduceLeDiff, hΓ, lk_words ks 146 underlying146 zero4]
 refine hK2 _ _ ?_
 conv => enter [5]; simp only [sl1, sl0, sz0, sz1]
 refine AW.ret ⟨.inr rfl, _, rfl, by simp, ?_⟩
 rw [hks s]
 exact .keep rfl


set_option maxRecDepth 100000 in
theorem words_calls  : APure prog Γ 98 [] (rowAV 1 false (words.map str)) := by
 refine APure.of func98 rfl fun σ => ?_
 simp only [ntmps98, List.length_cons, List.length_nil, Nat.reduceAdd, Nat.reduceSub, List.replicate_succ, List.replicate_zero, List.cons_append, List.nil_append]
 refine AW.regl false [0] (by rfl) fun K1 hK1 => ?_
 simp only [go_sem, Nat.reduceAdd, Nat.reduceEqDiff, Nat.reduceLeDiff]
 refine hK1 _ _ ?_
 conv => enter [5]; simp only [sl1, sl0, sz0, sz1]
 refine AW.regl false [0] (by rfl) fun K2 hK2 => ?_
 simp only [go_sem, Nat.reduceAdd, Nat.reduceEqDiff, Nat.reduceLeDiff, row20]
 refine hK2 _ _ ?_
 conv => enter [5]; simp only [sl1, sl0, sz0, sz1]
 refine AW.ret ⟨.inr rfl, _, rfl, by simp, ?_⟩
 rw [row_false]
 exact .keep rfl

set_option maxRecDepth 100000 in
theorem rword_calls (s : ByteArray) : APure prog Γ 92 [.val (.string s)] (.val (.bool (wordM s))) := by
 refine APure.of func92 rfl fun σ => ?_
 simp only [ntmps92, List.length_cons, List.length_nil, Nat.reduceAdd, Nat.reduceSub, List.replicate_succ, List.replicate_zero, List.cons_append, List.nil_append]
 refine AW.regl false [2] (by rfl) fun K1 hK1 => ?_
 simp only [go_sem, Nat.reduceAdd, Nat.reduceEqDiff, Nat.reduceLeDiff, List.length_map, len_row, ba_beqL]
 refine hK1 _ _ ?_
 conv => enter [5]; simp only [sl1, sl0, sz0, sz1]
 refine AW.regl false [3] (by rfl) fun K2 hK2 => ?_
 simp only [go_sem, Nat.reduceAdd, Nat.reduceEqDiff, Nat.reduceLeDiff, List.length_map, len_row, ba_beqL]
 refine sC.of en98 (words_calls.on _).here (by rfl) ?_
 simp only [go_sem, Nat.reduceAdd, Nat.reduceEqDiff, Nat.reduceLeDiff, List.length_map, len_row, ba_beqL]
 refine hK2 _ _ ?_
 conv => enter [5]; simp only [sl1, sl0, sz0, sz1]
 refine AW.seq_k fun K3 hK3 => ?_
 refine AW.regl false [4] (by rfl) fun K4 hK4 => ?_
 simp only [go_sem, Nat.reduceAdd, Nat.reduceEqDiff, Nat.reduceLeDiff, List.length_map, len_row, ba_beqL]
 refine hK4 _ _ ?_
 conv => enter [5]; simp only [sl1, sl0, sz0, sz1]
 refine AW.block ?_
 refine AW.loop_wk (α := Nat) (fun i => [(.val (.string s)), .any, .any, (rowAV 1 false (words.map str)), (.val (.int .i64 ((i : Nat) : Int))), .any, .any, .any, .any, .any, .any, .any, .any, .any, .any, .any, .any, .any]) (fun i => σ) (fun i => words.length - i) (fun i => i ≤ words.length ∧ findS (words.take i) s = none) 0 ?_ ?_
 ·exact ⟨⟨Nat.zero_le _, rfl⟩, by simp [Wk], rfl⟩
 ·rintro i ⟨hi, hit⟩
  refine AW.seq_k fun K5 hK5 => ?_
  refine AW.regl false [9] (by rfl) fun K6 hK6 => ?_
  simp only [go_sem, Nat.reduceAdd, Nat.reduceEqDiff, Nat.reduceLeDiff, List.length_map, len_row, ba_beqL]
  refine hK6 _ _ ?_
  conv => enter [5]; simp only [sl1, sl0, sz0, sz1]
  refine AW.cond rfl (fun hc9 => ?_) (fun hc9 => ?_)
  ·skip
   have hi1 : i < words.length := by simpa using hc9
   have hx : (words.map str)[i]? = some (.val (.string (words[i]))) := by rw [List.getElem?_map, List.getElem?_eq_getElem hi1]; rfl
   refine AW.skip ?_
   refine hK5 _ _ ?_
   refine AW.seq_k fun K7 hK7 => ?_
   refine AW.block ?_
   refine AW.regl false [17] (by rfl) fun K8 hK8 => ?_
   simp only [go_sem, Nat.reduceAdd, Nat.reduceEqDiff, Nat.reduceLeDiff, List.length_map, len_row, ba_beqL, at_row hx]
   refine hK8 _ _ ?_
   conv => enter [5]; simp only [sl1, sl0, sz0, sz1]
   refine AW.cond rfl (fun hc17 => ?_) (fun hc17 => ?_)
   ·skip
    have heq : words[i] = s := by simpa using hc17
    refine AW.regl false [2] (by rfl) fun K9 hK9 => ?_
    simp only [go_sem, Nat.reduceAdd, Nat.reduceEqDiff, Nat.reduceLeDiff, List.length_map, len_row, ba_beqL]
    refine hK9 _ _ ?_
    conv => enter [5]; simp only [sl1, sl0, sz0, sz1]
    refine AW.ret ⟨.inr rfl, _, rfl, by simp, ?_⟩
    refine frzB ?_
    rw [wordM, ← heq]
    exact (findS_mem hi1).symm
   ·skip
    have hne : ¬ words[i] = s := by simpa using hc17
    refine AW.skip ?_
    refine hK7 _ _ ?_
    refine AW.lastl false [4] (by rfl) fun K hK => ?_
    simp only [go_sem, Nat.reduceAdd, Nat.reduceEqDiff, Nat.reduceLeDiff, List.length_map, len_row, ba_beqL]
    refine hK _ _ fun env' hw => ?_
    simp only [setL_cons, setL_nil, List.set_cons_zero, List.set_cons_succ] at hw
    refine ⟨i + 1, by omega, ⟨by omega, findS_take hi1 hit (fun e => hne e.symm)⟩, ?_, rfl⟩
    refine hw.trans ?_
    simp [Wk, wrap_succ hi1 (by decide)]
    try omega
  ·skip
   have hi1 : i = words.length := by
    have : ¬ i < words.length := by simpa using hc9
    omega
   refine AW.exit ?_
   refine hK3 _ _ ?_
   refine AW.regl false [2] (by rfl) fun K10 hK10 => ?_
   simp only [go_sem, Nat.reduceAdd, Nat.reduceEqDiff, Nat.reduceLeDiff, List.length_map, len_row, ba_beqL]
   refine hK10 _ _ ?_
   conv => enter [5]; simp only [sl1, sl0, sz0, sz1]
   refine AW.ret ⟨.inr rfl, _, rfl, by simp, ?_⟩
   refine frzB ?_
   rw [wordM]
   rw [hi1, List.take_length] at hit
   rw [hit]
   rfl

set_option maxRecDepth 100000 in
theorem name_calls (hΓ : Words Γ) (s : ByteArray) (hs : s.size ≤ 1000000000) : APure prog Γ 75 [.val (.string s)] (.val (.bool (nameM s))) := by
 refine APure.of func75 rfl fun σ => ?_
 simp only [ntmps75, List.length_cons, List.length_nil, Nat.reduceAdd, Nat.reduceSub, List.replicate_succ, List.replicate_zero, List.cons_append, List.nil_append]
 refine AW.regl false [2] (by rfl) fun K1 hK1 => ?_
 simp only [go_sem, Nat.reduceAdd, Nat.reduceEqDiff, Nat.reduceLeDiff, List.length_map, len_row, ba_beqL, byteAV]
 refine hK1 _ _ ?_
 conv => enter [5]; simp only [sl1, sl0, sz0, sz1]
 refine AW.seq_k fun K2 hK2 => ?_
 refine AW.regtf false 16 (.val (.bool (((decide (s = ⟨#[]⟩)) || (decide (((s.size : Nat) : Int) > 60))) || (wordM s)))) (by rfl) ?_ ?_
 ·skip
  cases h7 : ((decide (s = ⟨#[]⟩)))
  ·skip
   cases h11 : ((decide (((s.size : Nat) : Int) > 60)))
   ·skip
    simp only [go_sem, Nat.reduceAdd, Nat.reduceEqDiff, Nat.reduceLeDiff, List.length_map, len_row, ba_beqL, byteAV, h7, h11]
    refine sC.of en89 ((word_calls hΓ s).on _).here (by rfl) ?_
    simp only [go_sem, Nat.reduceAdd, Nat.reduceEqDiff, Nat.reduceLeDiff, List.length_map, len_row, ba_beqL, byteAV, h7, h11]
    try simp [upd_at, h7, h11, List.length_map, len_row, ba_beqL, byteAV]
   ·skip
    simp only [go_sem, Nat.reduceAdd, Nat.reduceEqDiff, Nat.reduceLeDiff, List.length_map, len_row, ba_beqL, byteAV, h7, h11]
    try simp [upd_at, h7, h11, List.length_map, len_row, ba_beqL, byteAV]
  ·skip
   simp only [go_sem, Nat.reduceAdd, Nat.reduceEqDiff, Nat.reduceLeDiff, List.length_map, len_row, ba_beqL, byteAV, h7]
   try simp [upd_at, h7, List.length_map, len_row, ba_beqL, byteAV]
 conv => enter [5]; simp only [sz0, sz1]
 refine AW.cond rfl (fun hc16 => ?_) (fun hc16 => ?_)
 ·skip
  refine AW.regl false [2] (by rfl) fun K4 hK4 => ?_
  simp only [go_sem, Nat.reduceAdd, Nat.reduceEqDiff, Nat.reduceLeDiff, List.length_map, len_row, ba_beqL, byteAV]
  refine hK4 _ _ ?_
  conv => enter [5]; simp only [sl1, sl0, sz0, sz1]
  refine AW.ret ⟨.inr rfl, _, rfl, by simp, ?_⟩
  refine frzB ?_
  rw [nameM, hc16]
  rfl
 ·skip
  refine AW.skip ?_
  refine hK2 _ _ ?_
  refine AW.seq_k fun K5 hK5 => ?_
  have hcv := fun σ => cvb9_82 σ s (by omega)
  refine AW.regl false [18, 19, 20] (by rfl) fun K6 hK6 => ?_
  simp only [go_sem, Nat.reduceAdd, Nat.reduceEqDiff, Nat.reduceLeDiff, List.length_map, len_row, ba_beqL, byteAV, hcv]
  refine hK6 _ _ ?_
  conv => enter [5]; simp only [sl1, sl0, sz0, sz1]
  refine AW.block ?_
  refine AW.loop_wk (α := Nat) (fun i => [.any, .any, .any, .any, .any, .any, .any, .any, .any, .any, .any, .any, .any, .any, .any, .any, .any, .any, (rowAV 1 false (s.data.toList.map byteAV)), (.val (.int .i64 ((s.data.toList.length : Nat) : Int))), (.val (.int .i64 ((i : Nat) : Int))), .any, .any, .any, .any, .any, .any, .any, .any, .any, .any, .any, .any, .any, .any, .any, .any, .any, .any, .any, .any, .any, .any, .any, .any, .any, .any, .any, .any, .any, .any, .any, .any, .any, .any, .any, .any, .any]) (fun i => σ) (fun i => s.data.toList.length - i) (fun i => i ≤ s.data.toList.length ∧ okFrom 0 s.data.toList = okFrom i (s.data.toList.drop i)) 0 ?_ ?_
  ·exact ⟨⟨Nat.zero_le _, rfl⟩, by simp [Wk], rfl⟩
  ·rintro i ⟨hi, hit⟩
   refine AW.regl false [21] (by rfl) fun K7 hK7 => ?_
   simp only [go_sem, Nat.reduceAdd, Nat.reduceEqDiff, Nat.reduceLeDiff, List.length_map, len_row, ba_beqL, byteAV]
   refine hK7 _ _ ?_
   conv => enter [5]; simp only [sl1, sl0, sz0, sz1]
   refine AW.seq_k fun K8 hK8 => ?_
   refine AW.cond rfl (fun hc21 => ?_) (fun hc21 => ?_)
   ·skip
    have hi1 : i < s.data.toList.length := by simpa using hc21
    obtain ⟨b, hb⟩ : ∃ z, z = s.data.toList[i] := ⟨_, rfl⟩
    have hx : (s.data.toList.map byteAV)[i]? = some (byteAV b) := by rw [hb, List.getElem?_map, List.getElem?_eq_getElem hi1]; rfl
    refine AW.skip ?_
    refine hK8 _ _ ?_
    refine AW.seq_k fun K9 hK9 => ?_
    refine AW.block ?_
    refine AW.regl false [3, 4] (by rfl) fun K10 hK10 => ?_
    simp only [go_sem, Nat.reduceAdd, Nat.reduceEqDiff, Nat.reduceLeDiff, List.length_map, len_row, ba_beqL, byteAV, at_row hx]
    refine hK10 _ _ ?_
    conv => enter [5]; simp only [sl1, sl0, sz0, sz1]
    refine AW.regtf false 5 (.val (.bool (letter b))) (by rfl) ?_ ?_
    ·skip
     cases h26 : ((decide (((b.toNat : Nat) : Int) ≥ 97)))
     ·skip
      cases h33 : ((decide (((b.toNat : Nat) : Int) ≥ 65)))
      ·skip
       simp only [go_sem, Nat.reduceAdd, Nat.reduceEqDiff, Nat.reduceLeDiff, List.length_map, len_row, ba_beqL, byteAV, letter, h26, h33]
       try simp [upd_at, h26, h33, List.length_map, len_row, ba_beqL, byteAV, letter]
      ·skip
       cases h36 : ((decide (((b.toNat : Nat) : Int) ≤ 90)))
       ·skip
        simp only [go_sem, Nat.reduceAdd, Nat.reduceEqDiff, Nat.reduceLeDiff, List.length_map, len_row, ba_beqL, byteAV, letter, h26, h33, h36]
        try simp [upd_at, h26, h33, h36, List.length_map, len_row, ba_beqL, byteAV, letter]
       ·skip
        simp only [go_sem, Nat.reduceAdd, Nat.reduceEqDiff, Nat.reduceLeDiff, List.length_map, len_row, ba_beqL, byteAV, letter, h26, h33, h36]
        try simp [upd_at, h26, h33, h36, List.length_map, len_row, ba_beqL, byteAV, letter]
     ·skip
      cases h29 : ((decide (((b.toNat : Nat) : Int) ≤ 122)))
      ·skip
       cases h33 : ((decide (((b.toNat : Nat) : Int) ≥ 65)))
       ·skip
        simp only [go_sem, Nat.reduceAdd, Nat.reduceEqDiff, Nat.reduceLeDiff, List.length_map, len_row, ba_beqL, byteAV, letter, h26, h29, h33]
        try simp [upd_at, h26, h29, h33, List.length_map, len_row, ba_beqL, byteAV, letter]
       ·skip
        cases h36 : ((decide (((b.toNat : Nat) : Int) ≤ 90)))
        ·skip
         simp only [go_sem, Nat.reduceAdd, Nat.reduceEqDiff, Nat.reduceLeDiff, List.length_map, len_row, ba_beqL, byteAV, letter, h26, h29, h33, h36]
         try simp [upd_at, h26, h29, h33, h36, List.length_map, len_row, ba_beqL, byteAV, letter]
        ·skip
         simp only [go_sem, Nat.reduceAdd, Nat.reduceEqDiff, Nat.reduceLeDiff, List.length_map, len_row, ba_beqL, byteAV, letter, h26, h29, h33, h36]
         try simp [upd_at, h26, h29, h33, h36, List.length_map, len_row, ba_beqL, byteAV, letter]
      ·skip
       simp only [go_sem, Nat.reduceAdd, Nat.reduceEqDiff, Nat.reduceLeDiff, List.length_map, len_row, ba_beqL, byteAV, letter, h26, h29]
       try simp [upd_at, h26, h29, List.length_map, len_row, ba_beqL, byteAV, letter]
    conv => enter [5]; simp only [sz0, sz1]
    refine AW.regtf false 56 (.val (.bool (!(letter b) && ((decide (i = 0) || !digit b))))) (by rfl) ?_ ?_
    ·skip
     cases h5 : ((letter b))
     ·skip
      cases h47 : ((((i : Nat) : Int) == 0))
      ·skip
       cases h50 : ((decide (((b.toNat : Nat) : Int) < 48)))
       ·skip
        simp only [go_sem, Nat.reduceAdd, Nat.reduceEqDiff, Nat.reduceLeDiff, List.length_map, len_row, ba_beqL, byteAV, digit, h5, h47, h50]
        try simp [upd_at, h5, h47, h50, List.length_map, len_row, ba_beqL, byteAV, digit]
        all_goals try (simp at *)
        all_goals try omega
        all_goals try (simp [show ¬ (i = 0) by omega])
        all_goals try omega
        all_goals try (rw [Bool.eq_iff_iff]; simp; omega)
       ·skip
        simp only [go_sem, Nat.reduceAdd, Nat.reduceEqDiff, Nat.reduceLeDiff, List.length_map, len_row, ba_beqL, byteAV, digit, h5, h47, h50]
        try simp [upd_at, h5, h47, h50, List.length_map, len_row, ba_beqL, byteAV, digit]
        all_goals try (simp at *)
        all_goals try omega
        all_goals try (simp [show ¬ (i = 0) by omega])
        all_goals try omega
        all_goals try (rw [Bool.eq_iff_iff]; simp; omega)
      ·skip
       simp only [go_sem, Nat.reduceAdd, Nat.reduceEqDiff, Nat.reduceLeDiff, List.length_map, len_row, ba_beqL, byteAV, digit, h5, h47]
       try simp [upd_at, h5, h47, List.length_map, len_row, ba_beqL, byteAV, digit]
       all_goals try (simp at *)
       all_goals try omega
       all_goals try (simp [show ¬ (i = 0) by omega])
       all_goals try omega
       all_goals try (rw [Bool.eq_iff_iff]; simp; omega)
     ·skip
      simp only [go_sem, Nat.reduceAdd, Nat.reduceEqDiff, Nat.reduceLeDiff, List.length_map, len_row, ba_beqL, byteAV, digit, h5]
      try simp [upd_at, h5, List.length_map, len_row, ba_beqL, byteAV, digit]
      all_goals try (simp at *)
      all_goals try omega
      all_goals try (simp [show ¬ (i = 0) by omega])
      all_goals try omega
      all_goals try (rw [Bool.eq_iff_iff]; simp; omega)
    conv => enter [5]; simp only [sz0, sz1]
    refine AW.cond rfl (fun hc56 => ?_) (fun hc56 => ?_)
    ·skip
     have hok : (letter b || (decide (0 < i) && digit b)) = false := by
      cases h1 : letter b <;> cases h2 : digit b <;> simp [h1, h2] at hc56 ⊢ <;> omega
     refine AW.regl false [2] (by rfl) fun K13 hK13 => ?_
     simp only [go_sem, Nat.reduceAdd, Nat.reduceEqDiff, Nat.reduceLeDiff, List.length_map, len_row, ba_beqL, byteAV]
     refine hK13 _ _ ?_
     conv => enter [5]; simp only [sl1, sl0, sz0, sz1]
     refine AW.ret ⟨.inr rfl, _, rfl, by simp, ?_⟩
     refine frzB ?_
     rw [nameM, hit, okFrom_drop hi1, ← hb, hok]
     simp
    ·skip
     have hok : (letter b || (decide (0 < i) && digit b)) = true := by
      cases h1 : letter b <;> cases h2 : digit b <;> simp [h1, h2] at hc56 ⊢ <;> omega
     refine AW.skip ?_
     refine hK9 _ _ ?_
     refine AW.lastl false [20] (by rfl) fun K hK => ?_
     simp only [go_sem, Nat.reduceAdd, Nat.reduceEqDiff, Nat.reduceLeDiff, List.length_map, len_row, ba_beqL, byteAV]
     refine hK _ _ fun env' hw => ?_
     simp only [setL_cons, setL_nil, List.set_cons_zero, List.set_cons_succ] at hw
     refine ⟨i + 1, by omega, ⟨by omega, by rw [hit, okFrom_drop hi1, ← hb, hok]; rfl⟩, ?_, rfl⟩
     refine hw.trans ?_
     simp [Wk, wrap_succ hi1 (by rw [maxLen_eq, ba_len]; omega)]
     try omega
   ·skip
    have hi1 : i = s.data.toList.length := by
     have : ¬ i < s.data.toList.length := by simpa using hc21
     omega
    refine AW.exit ?_
    refine hK5 _ _ ?_
    refine AW.regl false [2] (by rfl) fun K14 hK14 => ?_
    simp only [go_sem, Nat.reduceAdd, Nat.reduceEqDiff, Nat.reduceLeDiff, List.length_map, len_row, ba_beqL, byteAV]
    refine hK14 _ _ ?_
    conv => enter [5]; simp only [sl1, sl0, sz0, sz1]
    refine AW.ret ⟨.inr rfl, _, rfl, by simp, ?_⟩
    refine frzB ?_
    rw [nameM, hit, hi1, List.drop_length, hc16]
    rfl

set_option maxRecDepth 100000 in
theorem rname_calls (s : ByteArray) (hs : s.size ≤ 1000000000) : APure prog Γ 83 [.val (.string s)] (.val (.bool (nameM s))) := by
 refine APure.of func83 rfl fun σ => ?_
 simp only [ntmps83, List.length_cons, List.length_nil, Nat.reduceAdd, Nat.reduceSub, List.replicate_succ, List.replicate_zero, List.cons_append, List.nil_append]
 refine AW.regl false [2] (by rfl) fun K1 hK1 => ?_
 simp only [go_sem, Nat.reduceAdd, Nat.reduceEqDiff, Nat.reduceLeDiff, ba_beqL]
 refine hK1 _ _ ?_
 conv => enter [5]; simp only [sl1, sl0, sz0, sz1]
 refine AW.seq_k fun K2 hK2 => ?_
 refine AW.regl false [3] (by rfl) fun K3 hK3 => ?_
 simp only [go_sem, Nat.reduceAdd, Nat.reduceEqDiff, Nat.reduceLeDiff, ba_beqL]
 refine hK3 _ _ ?_
 conv => enter [5]; simp only [sl1, sl0, sz0, sz1]
 refine AW.block ?_
 refine AW.loop_wk (α := Nat) (fun i => [(.val (.string s)), .any, .any, (.val (.int .i64 ((i : Nat) : Int))), .any, .any, .any, .any, .any, .any, .any, .any, .any, .any, .any, .any, .any, .any, .any, .any, .any, .any, .any, .any, .any, .any, .any, .any, .any, .any, .any, .any, .any, .any, .any, .any, .any, .any, .any]) (fun i => σ) (fun i => s.size - i) (fun i => i ≤ s.size ∧ okFrom 0 s.data.toList = okFrom i (s.data.toList.drop i)) 0 ?_ ?_
 ·exact ⟨⟨Nat.zero_le _, rfl⟩, by simp [Wk], rfl⟩
 ·rintro i ⟨hi, hit⟩
  refine AW.seq_k fun K4 hK4 => ?_
  refine AW.regl false [7] (by rfl) fun K5 hK5 => ?_
  simp only [go_sem, Nat.reduceAdd, Nat.reduceEqDiff, Nat.reduceLeDiff, ba_beqL]
  refine hK5 _ _ ?_
  conv => enter [5]; simp only [sl1, sl0, sz0, sz1]
  refine AW.cond rfl (fun hc7 => ?_) (fun hc7 => ?_)
  ·skip
   have hi1 : i < s.size := by simpa using hc7
   obtain ⟨b, hb⟩ : ∃ z, z = s.data.toList[i]'hi1 := ⟨_, rfl⟩
   have hx : ∀ k : IntKind, aIndex prog 9 (str s) (.val (.int k i)) = some (.val (.int .u8 b.toNat)) := fun k => by rw [index_str tyStr9 s k i hi1, hb, ba_get s hi1]
   refine AW.skip ?_
   refine hK4 _ _ ?_
   refine AW.seq_k fun K6 hK6 => ?_
   refine AW.block ?_
   refine AW.regtf false 25 (.val (.bool (!(letter b || (decide (0 < i) && digit b))))) (by rfl) ?_ ?_
   ·skip
    cases h13 : ((letter b))
    ·skip
     cases h17 : ((decide (((i : Nat) : Int) > 0)))
     ·skip
      simp only [go_sem, Nat.reduceAdd, Nat.reduceEqDiff, Nat.reduceLeDiff, ba_beqL, hx, h13, h17]
      refine sC.of en90 ((letter_calls b).on _).here (by rfl) ?_
      simp only [go_sem, Nat.reduceAdd, Nat.reduceEqDiff, Nat.reduceLeDiff, ba_beqL, hx, h13, h17]
      try simp [upd_at, h13, h17, ba_beqL, hx]
      all_goals try (simp_all <;> omega)
     ·skip
      simp only [go_sem, Nat.reduceAdd, Nat.reduceEqDiff, Nat.reduceLeDiff, ba_beqL, hx, h13, h17]
      refine sC.of en90 ((letter_calls b).on _).here (by rfl) ?_
      simp only [go_sem, Nat.reduceAdd, Nat.reduceEqDiff, Nat.reduceLeDiff, ba_beqL, hx, h13, h17]
      refine sC.of en91 ((digit_calls b).on _).here (by rfl) ?_
      simp only [go_sem, Nat.reduceAdd, Nat.reduceEqDiff, Nat.reduceLeDiff, ba_beqL, hx, h13, h17]
      try simp [upd_at, h13, h17, ba_beqL, hx]
      all_goals try (simp_all <;> omega)
    ·skip
     simp only [go_sem, Nat.reduceAdd, Nat.reduceEqDiff, Nat.reduceLeDiff, ba_beqL, hx, h13]
     refine sC.of en90 ((letter_calls b).on _).here (by rfl) ?_
     simp only [go_sem, Nat.reduceAdd, Nat.reduceEqDiff, Nat.reduceLeDiff, ba_beqL, hx, h13]
     try simp [upd_at, h13, ba_beqL, hx]
     all_goals try (simp_all <;> omega)
   conv => enter [5]; simp only [sz0, sz1]
   refine AW.cond rfl (fun hc25 => ?_) (fun hc25 => ?_)
   ·skip
    have hok : (letter b || (decide (0 < i) && digit b)) = false := by cases h1 : letter b <;> cases h2 : digit b <;> simp [h1, h2] at hc25 ⊢ <;> omega
    refine AW.regl false [2] (by rfl) fun K8 hK8 => ?_
    simp only [go_sem, Nat.reduceAdd, Nat.reduceEqDiff, Nat.reduceLeDiff, ba_beqL]
    refine hK8 _ _ ?_
    conv => enter [5]; simp only [sl1, sl0, sz0, sz1]
    refine AW.ret ⟨.inr rfl, _, rfl, by simp, ?_⟩
    refine frzB ?_
    rw [nameM, hit, okFrom_drop hi1, ← hb, hok]
    simp
   ·skip
    have hok : (letter b || (decide (0 < i) && digit b)) = true := by cases h1 : letter b <;> cases h2 : digit b <;> simp [h1, h2] at hc25 ⊢ <;> omega
    refine AW.skip ?_
    refine hK6 _ _ ?_
    refine AW.lastl false [3] (by rfl) fun K hK => ?_
    simp only [go_sem, Nat.reduceAdd, Nat.reduceEqDiff, Nat.reduceLeDiff, ba_beqL]
    refine hK _ _ fun env' hw => ?_
    simp only [setL_cons, setL_nil, List.set_cons_zero, List.set_cons_succ] at hw
    refine ⟨i + 1, by omega, ⟨by omega, by rw [hit, okFrom_drop hi1, ← hb, hok]; rfl⟩, ?_, rfl⟩
    refine hw.trans ?_
    simp [Wk, wrap_succ hi1 (by rw [maxLen_eq]; omega)]
    try omega
  ·skip
   have hi1 : i = s.size := by
    have : ¬ i < s.size := by simpa using hc7
    omega
   refine AW.exit ?_
   refine hK2 _ _ ?_
   refine AW.regtf false 2 (.val (.bool (((decide (((s.size : Nat) : Int) ≥ 1)) && (decide (((s.size : Nat) : Int) ≤ 60))) && !((wordM s))))) (by rfl) ?_ ?_
   ·skip
    cases h28 : ((decide (((s.size : Nat) : Int) ≥ 1)))
    ·skip
     simp only [go_sem, Nat.reduceAdd, Nat.reduceEqDiff, Nat.reduceLeDiff, ba_beqL, h28]
     try simp [upd_at, h28, ba_beqL]
    ·skip
     cases h32 : ((decide (((s.size : Nat) : Int) ≤ 60)))
     ·skip
      simp only [go_sem, Nat.reduceAdd, Nat.reduceEqDiff, Nat.reduceLeDiff, ba_beqL, h28, h32]
      try simp [upd_at, h28, h32, ba_beqL]
     ·skip
      simp only [go_sem, Nat.reduceAdd, Nat.reduceEqDiff, Nat.reduceLeDiff, ba_beqL, h28, h32]
      refine sC.of en92 ((rword_calls s).on _).here (by rfl) ?_
      simp only [go_sem, Nat.reduceAdd, Nat.reduceEqDiff, Nat.reduceLeDiff, ba_beqL, h28, h32]
      try simp [upd_at, h28, h32, ba_beqL]
   conv => enter [5]; simp only [sz0, sz1]
   refine AW.ret ⟨.inr rfl, _, rfl, by simp, ?_⟩
   refine frzB ?_
   rw [nameM, hit, hi1, List.drop_of_length_le (by rw [ba_len]; exact Nat.le_refl _)]
   by_cases h0 : s = ⟨#[]⟩
   ·subst h0; rfl
   ·have h1 : 1 ≤ s.size := by
     rcases Nat.eq_zero_or_pos s.size with h | h
     ·exact absurd (ByteArray.ext (by simpa using Array.eq_empty_of_size_eq_zero h)) h0
     ·exact h
    have h1 : (1 : Int) ≤ s.size := by omega
    simp only [okFrom, h0, h1, decide_true, decide_false, Bool.true_and, Bool.false_or, Bool.and_true]
    rw [Bool.eq_iff_iff]
    simp
end A
end Go.Proofs.Tryd
/-! What the rows of flow's laws share: the package variables, a world that holds them. -/
namespace Go.Proofs.YtnjehllmlheagaaDoor
set_option linter.unusedSimpArgs false
set_option linter.unusedVariables false
open Go Go.ChangeShapes Go.WideShapes Go.ChangeAt Go.RowKit Go.Proofs.Ev Go.Proofs.Tryd
namespace Fr
theorem own : ownKnob Tryd.prog.godebug = none := by kernel_rfl
theorem laidOut : laidOutB Tryd.prog = true := by kernel_rfl
theorem gKinds : Tryd.prog.globalNamed "shuttlecock/diag.kinds" = some 0 := by kernel_rfl
theorem gKindsType : (Tryd.prog.globals[0]?).map (·.type) = some 159 := by kernel_rfl
theorem gRules : Tryd.prog.globalNamed "shuttlecock/flow.rules" = some 1 := by kernel_rfl
theorem gRulesType : (Tryd.prog.globals[1]?).map (·.type) = some 163 := by kernel_rfl
theorem gWords : Tryd.prog.globalNamed "shuttlecock/ast.words" = some 2 := by kernel_rfl
theorem gWordsType : (Tryd.prog.globals[2]?).map (·.type) = some 146 := by kernel_rfl
theorem cells3 : Tryd.prog.cellsOf 3 = 1 := by kernel_rfl
theorem cells2 : Tryd.prog.cellsOf 2 = 1 := by kernel_rfl
theorem cells158 : Tryd.prog.cellsOf 158 = 4 := by kernel_rfl
theorem cells162 : Tryd.prog.cellsOf 162 = 2 := by kernel_rfl
/-- One entry of kinds, as it reads. -/
def dtK (k : Int × Int × Int × Int) : DataW Unit := .agg [.lit (.int .i64 k.1), .lit (.int .i64 k.2.1), .lit (.int .i64 k.2.2.1), .lit (.int .i64 k.2.2.2)]
theorem slot1 {α : Type} {cs : List α} {v : α} {i : Nat} (h : (cs.drop i).take 1 = [v]) : cs[i]? = some v := by
 have := congrArg (·[0]?) h
 simpa [List.getElem?_take, List.getElem?_drop] using this
theorem list4 {α : Type} {cs : List α} (h : cs.length = 4) : ∃ a b c d, cs = [a, b, c, d] := by
 match cs, h with
 | [a, b, c, d], _ => exact ⟨a, b, c, d, rfl⟩
theorem dec_k {W : World} {base : Nat} {sp : Nat → Bool} {held : Bool} {n : Nat} {cs : List Value} {x : DataW Unit × List MemPlace} {a : Int × Int × Int × Int} (h : DataW.trod (fun _ => ()) Tryd.prog W base sp held n 158 cs = some x) (hx : x.1 = dtK a) : CellsOf W (Tryd.encK a).cells cs := by
 obtain ⟨y0, y1, y2, y3, m, rfl, hl, h0, h1, h2, h3⟩ := Go.Joins.trod_struct4 Tryd.underlying158 h
 simp only [dtK, DataW.agg.injEq, List.cons.injEq, and_true] at hx
 obtain ⟨e0, e1, e2, e3⟩ := hx
 obtain ⟨n0, c0, d0, _⟩ := DataW.trod_int Tryd.underlying3 h0
 obtain ⟨n1, c1, d1, _⟩ := DataW.trod_int Tryd.underlying3 h1
 obtain ⟨n2, c2, d2, _⟩ := DataW.trod_int Tryd.underlying2 h2
 obtain ⟨n3, c3, d3, _⟩ := DataW.trod_int Tryd.underlying3 h3
 subst d0 d1 d2 d3
 simp only [DataW.lit.injEq, Lit.int.injEq, true_and] at e0 e1 e2 e3
 change (cs.drop 0).take (Tryd.prog.cellsOf 3) = _ at c0
 rw [cells3] at c0
 have k0 := slot1 c0
 change (cs.drop 1).take (Tryd.prog.cellsOf 3) = _ at c1
 rw [cells3] at c1
 have k1 := slot1 c1
 change (cs.drop 2).take (Tryd.prog.cellsOf 2) = _ at c2
 rw [cells2] at c2
 have k2 := slot1 c2
 change (cs.drop 3).take (Tryd.prog.cellsOf 3) = _ at c3
 rw [cells3] at c3
 have k3 := slot1 c3
 rw [cells158] at hl
 obtain ⟨v0, v1, v2, v3, rfl⟩ := list4 hl
 clear h h0 h1 h2 h3 c0 c1 c2 c3
 simp only [List.getElem?_cons_zero, List.getElem?_cons_succ, Option.some.injEq] at k0 k1 k2 k3
 subst k0 k1 k2 k3 e0 e1 e2 e3
 exact ⟨⟨rfl, rfl, rfl, rfl, trivial⟩, fun v hv => by simp at hv; rcases hv with rfl | rfl | rfl | rfl <;> rfl⟩
def dtR (k : Int × Int) : DataW Unit := .agg [.lit (.int .i64 k.1), .lit (.int .i64 k.2)]
theorem list2 {α : Type} {cs : List α} (h : cs.length = 2) : ∃ a b, cs = [a, b] := by
 match cs, h with
 | [a, b], _ => exact ⟨a, b, rfl⟩
theorem dec_r {W : World} {base : Nat} {sp : Nat → Bool} {held : Bool} {n : Nat} {cs : List Value} {x : DataW Unit × List MemPlace} {a : Int × Int} (h : DataW.trod (fun _ => ()) Tryd.prog W base sp held n 162 cs = some x) (hx : x.1 = dtR a) : CellsOf W (encR a).cells cs := by
 obtain ⟨y0, y1, m, rfl, hl, h0, h1⟩ := trod_struct2 Tryd.underlying162 h
 simp only [dtR, DataW.agg.injEq, List.cons.injEq, and_true] at hx
 obtain ⟨e0, e1⟩ := hx
 obtain ⟨n0, c0, d0, _⟩ := DataW.trod_int Tryd.underlying3 h0
 obtain ⟨n1, c1, d1, _⟩ := DataW.trod_int Tryd.underlying3 h1
 subst d0 d1
 simp only [DataW.lit.injEq, Lit.int.injEq, true_and] at e0 e1
 change (cs.drop 0).take (Tryd.prog.cellsOf 3) = _ at c0
 rw [cells3] at c0
 have k0 := slot1 c0
 change (cs.drop 1).take (Tryd.prog.cellsOf 3) = _ at c1
 rw [cells3] at c1
 have k1 := slot1 c1
 rw [cells162] at hl
 obtain ⟨v0, v1, rfl⟩ := list2 hl
 clear h h0 h1 c0 c1
 simp only [List.getElem?_cons_zero, List.getElem?_cons_succ, Option.some.injEq] at k0 k1
 subst k0 k1 e0 e1
 exact ⟨⟨rfl, rfl, trivial⟩, fun v hv => by simp at hv; rcases hv with rfl | rfl <;> rfl⟩
theorem findS_mem_iff : ∀ (l : List ByteArray) (s : ByteArray), (findS l s).isSome = true ↔ s ∈ l
 | [], s => by simp [findS]
 | a :: l, s => by
  have := findS_mem_iff l s
  simp only [findS, List.mem_cons]
  split
  ·rename_i h
   simp [h]
  ·rename_i h
   simp [h, this]
theorem bytes_list {s t : ByteArray} (h : s.data.toList = t.data.toList) : s = t := by
 apply Go.WideShapes.bytes_inj
 exact h
/-- The entries of the list that the text lays. -/
def laidL : List (Lit × DataW Unit) := A.words.map fun s => (.string s.data.toList, .lit (.bool true))
theorem laidL_eq : (Rows.laid_shuttlecock_ast_words : DataW Unit) = .map laidL := by kernel_rfl
set_option maxRecDepth 100000 in
theorem keyOf_str {v : Value} {key : Lit} (h : keyOf Tryd.prog 9 v = some key) : ∃ s : ByteArray, v = .string s ∧ key = .string s.data.toList := by
 unfold keyOf at h
 rw [Tryd.underlying9] at h
 simp only [mapKey, Tryd.underlying9] at h
 cases v with
 | string s =>
  simp only at h
  split at h
  ·exact ⟨s, rfl, (Option.some.inj h).symm⟩
  ·cases h
 | _ => cases h
theorem mapM_pairs {α β : Type} {f : α → Option β} : ∀ {l : List α} {r : List β}, l.mapM f = some r → Pairs (fun a b => f a = some b) l r
 | [], r, h => by
  simp at h
  subst h
  exact .nil
 | a :: l, r, h => by
  simp only [List.mapM_cons, Option.bind_eq_bind, Option.bind_eq_some_iff] at h
  obtain ⟨b, h1, r', h2, h3⟩ := h
  simp at h3
  subst h3
  exact .cons h1 (mapM_pairs h2)
set_option maxRecDepth 100000 in
theorem entries_of {W : World} {base : Nat} {sp : Nat → Bool} {held : Bool} {n : Nat} : ∀ {es : List MapEntry} {ents : List ((Lit × DataW Unit) × List MemPlace)},
  Pairs (fun (x : MapEntry) y => ((keyOf Tryd.prog 9 x.key).bind fun key => if x.val.formed Tryd.prog 4 then (DataW.trod (fun _ => ()) Tryd.prog W base sp held n 4 x.val.cells.toList).map fun y => ((key, y.1), y.2) else none) = some y) es ents →
  (∀ p ∈ ents.map (·.1), p.2 = .lit (.bool true)) → ∃ ks : List ByteArray, es.map (·.key) = ks.map Value.string ∧ es.map (·.val) = List.replicate ks.length (.bool true) ∧ ents.map (·.1.1) = ks.map fun s => .string s.data.toList
 | [], _, .nil, _ => ⟨[], rfl, rfl, rfl⟩
 | x :: es, y :: ents, .cons h hs, hv => by
  obtain ⟨ks, k1, k2, k3⟩ := entries_of hs fun p hp => hv p (by simp only [List.map_cons]; exact List.mem_cons_of_mem _ hp)
  obtain ⟨key, h1, h2⟩ := Option.bind_eq_some_iff.1 h
  split at h2 <;> try (simp at h2; done)
  rename_i hform
  obtain ⟨z, h3, h4⟩ := Option.map_eq_some_iff.1 h2
  obtain ⟨s, e1, e2⟩ := keyOf_str h1
  have hb := hv y.1 (by simp)
  rw [← h4] at hb
  simp only at hb
  obtain ⟨b, hc, hz⟩ := DataW.trod_bool Tryd.underlying4 h3
  rw [hz] at hb
  simp only [DataW.lit.injEq, Lit.bool.injEq] at hb
  rw [hb] at hc
  have hval : x.val = .bool true := by
   unfold Value.formed at hform
   rw [Tryd.underlying4] at hform
   cases hx : x.val with
   | bool c =>
    rw [hx] at hc
    simpa [Value.cells] using hc
   | agg cs =>
    rw [hx] at hform
    cases hform
   | _ =>
    rw [hx] at hc
    simp [Value.cells] at hc
  refine ⟨s :: ks, by rw [List.map_cons, List.map_cons, k1, e1], by rw [List.map_cons, k2, hval]; rfl, ?_⟩
  rw [List.map_cons, List.map_cons, k3, ← h4, e2]
theorem var_cells {W : World} {g : Nat} {s : String} {cs : Array Value} {vs : List AV} (hg : Tryd.prog.globalNamed s = some g) (hvar : W.var? Tryd.prog s = some cs) (hc : RelL (C0 W) vs cs.toList) (ho : ∀ v ∈ cs.toList, v.oneCell' = true) : RelAt (C0 W) vs g 0 := by
 have hsz : g < W.heap.size := by
  unfold World.var? at hvar
  rw [hg] at hvar
  simp only [Option.bind_some] at hvar
  split at hvar
  ·rename_i hh
   exact (Array.getElem?_eq_some_iff.1 hh).1
  ·cases hvar
 exact relAt_cells (fun off => fix0 off hsz) hc ho (fun j v hj => by
  have := World.var?_cell hg hvar j
  show W.cell? ⟨g, 0 + j, none⟩ = some v
  rw [Nat.zero_add, ← hj]
  simpa using this)
set_option maxRecDepth 100000 in
theorem words_of {W : World} {cs : Array Value} {fuel : Nat} {p : List MemPlace} (hd : DataW.trod (fun _ => ()) Tryd.prog W 0 (fun _ => true) false fuel 146 cs.toList = some (Rows.laid_shuttlecock_ast_words, p)) : ∃ ks : List ByteArray, (RelL (C0 W) [.mapf (ks.map Value.string) (List.replicate ks.length (A.bool true))] cs.toList ∧ ∀ v ∈ cs.toList, v.oneCell' = true) ∧ ∀ s, (findS ks s).isSome = A.wordM s := by
 rw [laidL_eq] at hd
 cases fuel with
 | zero => simp [DataW.trod] at hd
 | succ n =>
  have hcs : ∃ b, cs.toList = [.map (some b)] := by
   unfold DataW.trod at hd
   rw [Tryd.underlying146] at hd
   split at hd <;> first | (exact ⟨_, rfl⟩) | (rename_i hc; exact ⟨_, hc⟩) | (simp at hd; done) | (simp_all; done)
  obtain ⟨b, hcb⟩ := hcs
  rw [hcb] at hd
  unfold DataW.trod at hd
  rw [Tryd.underlying146] at hd
  simp only at hd
  split at hd <;> try (simp at hd; done)
  rename_i es clock hb
  split at hd <;> try (simp at hd; done)
  obtain ⟨ents, he1, he2⟩ := Option.bind_eq_some_iff.1 hd
  split at he2 <;> try (simp at he2; done)
  have hL : (ents.map (·.1)).foldr DataW.insert [] = laidL := by
   simp only [Option.some.injEq, Prod.mk.injEq, DataW.map.injEq] at he2
   exact he2.1
  have hperm : laidL.Perm (ents.map (·.1)) := by
   rw [← hL]
   exact sorted_perm _
  obtain ⟨ks, k1, k2, k3⟩ := entries_of (mapM_pairs he1) fun p hp => by
   have := hperm.mem_iff.2 hp
   simp only [laidL, List.mem_map] at this
   obtain ⟨s, _, rfl⟩ := this
   rfl
  have hks : ∀ s, s ∈ ks ↔ s ∈ A.words := by
   intro s
   have e1 : (A.words.map fun s => Lit.string s.data.toList).Perm (ks.map fun s => Lit.string s.data.toList) := by
    have h5 : laidL.map (·.1) = A.words.map (fun s => Lit.string s.data.toList) := by
     unfold laidL
     rw [List.map_map]
     rfl
    have h6 : (ents.map (·.1)).map (·.1) = ents.map (·.1.1) := by
     rw [List.map_map]
     rfl
    have := hperm.map (·.1)
    rw [h5, h6, k3] at this
    exact this
   have e2 := e1.mem_iff (a := Lit.string s.data.toList)
   simp only [List.mem_map, Lit.string.injEq] at e2
   constructor
   ·intro hs
    obtain ⟨t, h1, h2⟩ := e2.2 ⟨s, hs, rfl⟩
    rwa [bytes_list h2] at h1
   ·intro hs
    obtain ⟨t, h1, h2⟩ := e2.1 ⟨s, hs, rfl⟩
    rwa [bytes_list h2] at h1
  refine ⟨ks, ⟨?_, fun v hv => by rw [hcb] at hv; simp at hv; subst hv; rfl⟩, fun s => ?_⟩
  ·rw [hcb]
   refine ⟨⟨b, es, clock, rfl, fixB0 (Array.getElem?_eq_some_iff.1 hb).1, hb, k1, ?_⟩, trivial⟩
   rw [k2]
   clear k1 k2 k3 hks
   induction ks with
   | nil => trivial
   | cons a l ih => exact ⟨rfl, ih⟩
  ·rw [Bool.eq_iff_iff, findS_mem_iff]
   unfold A.wordM
   rw [findS_mem_iff]
   exact hks s
theorem wall (W : World) (h : laidMetH Tryd.prog Rows.flowChecksRow.laid W) : ∃ ks : List ByteArray, RelG (C0 W) (GK (.mapf (ks.map Value.string) (List.replicate ks.length (A.bool true))) []) ∧ A.Words (GK (.mapf (ks.map Value.string) (List.replicate ks.length (A.bool true))) []) := by
 have h1 : laidMet Tryd.prog Rows.flowChecksRow.laid W := h
 obtain ⟨ps, ⟨g1, t1, cs1, fu1, p1, q1, hg1, ht1, hv1, hd1, ⟨g2, t2, cs2, fu2, p2, q2, hg2, ht2, hv2, hd2, ⟨g3, t3, cs3, fu3, p3, q3, hg3, ht3, hv3, hd3, _, _⟩, _⟩, _⟩, _⟩ := h1
 obtain rfl := Option.some.inj (gWords.symm.trans hg1)
 obtain rfl := Option.some.inj (gWordsType.symm.trans ht1)
 obtain rfl := Option.some.inj (gKinds.symm.trans hg2)
 obtain rfl := Option.some.inj (gKindsType.symm.trans ht2)
 obtain rfl := Option.some.inj (gRules.symm.trans hg3)
 obtain rfl := Option.some.inj (gRulesType.symm.trans ht3)
 obtain ⟨ks, hw1, hw2⟩ := words_of hd1
 have hc2 := dec_sliceD (sz := 4) Tryd.encK dtK Tryd.underlying159 cells158 (by decide) (fun _ => rfl) (fun n cs x a => dec_k) hd2 Tryd.kindsT [] rfl
 have hc3 := dec_sliceD (sz := 2) Tryd.encR dtR Tryd.underlying163 cells162 (by decide) (fun _ => rfl) (fun n cs x a => dec_r) hd3 Tryd.rulesT [] rfl
 refine ⟨ks, ?_, ks, rfl, hw2⟩
 intro x hx
 simp only [GK, List.mem_cons, List.not_mem_nil, or_false] at hx
 rcases hx with rfl | rfl | rfl
 ·exact var_cells gKinds hv2 hc2.1 hc2.2
 ·exact var_cells gRules hv3 hc3.1 hc3.2
 ·exact var_cells gWords hv1 hw1.1 hw1.2
noncomputable def laidK : Obj := .cells ((Tryd.kindsT.flatMap fun k => [Value.int .i64 k.1, .int .i64 k.2.1, .int .i64 k.2.2.1, .int .i64 k.2.2.2]).toArray) 158 (0, 0)
noncomputable def laidR : Obj := .cells ((Tryd.rulesT.flatMap fun k => [Value.int .i64 k.1, .int .i64 k.2]).toArray) 162 (0, 0)
noncomputable def laidM : Obj := .map ((A.words.toArray.mapIdx fun i s => { key := .string s, val := .bool true, born := i })) 20
def putCell (v : Value) : Obj → Obj
 | .cells _ t frozen => .cells #[v] t frozen
 | o => o
noncomputable def laidWorld (os : Os) : World :=
 let W := World.holding Tryd.prog os ⟨#[laidK, laidR, laidM], #[], []⟩
 let n := (World.settled Tryd.prog os).heap.size
 { W with heap := ((W.heap.modify 0 (putCell (.slice (some ⟨n, 0, none⟩) 8 8))).modify 1 (putCell (.slice (some ⟨n + 1, 0, none⟩) 15 15))).modify 2 (putCell (.map (some (n + 2)))) }
theorem laid_met (os : Os) : laidMet Tryd.prog Rows.flowChecksRow.laid ((laidWorld os).forCall (fun _ _ => 0) ⟨#[], #[.int .u16 0, .int .u8 0], []⟩).memory :=
 laidMet_of_run' 8 (by kernel_rfl) (by kernel_rfl)
end Fr
end Go.Proofs.YtnjehllmlheagaaDoor
/-! Diagrams: what is the same, what is great, the document's answers. -/
namespace Go.Proofs.Tryd
set_option linter.unusedSimpArgs false
set_option linter.unusedVariables false
open Go Go.Proofs.Ev
variable {Γ : List (Nat × List AV)}
theorem any_step {α : Type} {p : α → Bool} {l : List α} {i : Nat} (h : i < l.length) (ht : (l.take i).any p = false) (hp : p l[i] = false) : (l.take (i + 1)).any p = false := by
 rw [List.take_succ_eq_append_getElem h, List.any_append, ht]
 simp [hp]
theorem any_end {α : Type} {p : α → Bool} {l : List α} {i : Nat} (h : ¬ i < l.length) (ht : (l.take i).any p = false) : l.any p = false := by
 rwa [List.take_of_length_le (by omega)] at ht
theorem any_at {α : Type} {p : α → Bool} {l : List α} {i : Nat} (h : i < l.length) (hp : p l[i] = true) : l.any p = true := List.any_eq_true.2 ⟨_, List.getElem_mem h, hp⟩
-- the same, but for nil
abbrev KBlk := Int × Int × Int × Int × Int × Int × List (Int × Int)
set_option synthInstance.maxSize 4096 in
instance : DecidableEq KBlk := fun a b => inferInstance
abbrev KDgm := ByteArray × List (ByteArray × Int) × List ((ByteArray × Int) × Int × Int) × List KBlk
set_option synthInstance.maxSize 4096 in
instance : DecidableEq KDgm := fun a b => inferInstance
-- the document's types
theorem row_bel {α : Type} {en : α → AV} (h : ∀ a n, (en a).bel n = true) (n sz : Nat) (nl : Bool) (l : List α) : (rowAV sz nl (l.map en)).bel n = true := by
 have := belL_map (n := n) en l fun x _ => h x n
 cases l with
 | nil => cases nl <;> rfl
 | cons a l => simpa [rowAV, AV.bel] using this
theorem src_bel (s : Src) (n : Nat) : s.enc.bel n = true := rfl
theorem port_bel (s : PortM) (n : Nat) : s.enc.bel n = true := rfl
theorem out_bel (s : OutM) (n : Nat) : s.enc.bel n = true := rfl
theorem blk_bel (s : Blk) (n : Nat) : s.enc.bel n = true := by simp [Blk.enc, AV.bel, belL, row_bel src_bel]
theorem dgm_bel (s : Dgm) (n : Nat) : s.enc.bel n = true := by simp [Dgm.enc, AV.bel, belL, row_bel port_bel, row_bel out_bel, row_bel blk_bel]
theorem file_bel (f : FileM) (n : Nat) : AO.bel n (.cells f.enc.cells) = true := by simp [FileM.enc, AV.cells, AO.bel, belL, row_bel dgm_bel]
theorem frz_row {α : Type} {en : α → AV} (h : ∀ a n, (en a).bel n = true) {n k sz : Nat} {σ : Sto} (hk : n ≤ k) (l : List α) : Frz n σ (.slo true sz (l.map en) k) (rowAV sz true (l.map en)) := by
 cases l with
 | nil => exact .ownNil
 | cons a l => exact .own hk (by simp) (FrzR.keep (belL_map (n := n) en (a :: l) fun x _ => h x n))
theorem src_len (d : Src) : d.enc.cells.length = 2 := rfl
theorem port_len (d : PortM) : d.enc.cells.length = 2 := rfl
theorem out_len (d : OutM) : d.enc.cells.length = 4 := rfl
theorem dgm_len (d : Dgm) : d.enc.cells.length = 4 := rfl
theorem blk_len (d : Blk) : d.enc.cells.length = 7 := rfl
theorem rsrc_get (s : Src) : aGet prog 67 s.enc.cells = some s.enc := by simp only [Src.enc, go_sem]
theorem rblk_get (s : Blk) : aGet prog 96 s.enc.cells = some s.enc := by simp only [Blk.enc, go_sem]
theorem rdgm_get (s : Dgm) : aGet prog 62 s.enc.cells = some s.enc := by simp only [Dgm.enc, go_sem]
theorem rfile_get (s : FileM) : aGet prog 50 s.enc.cells = some s.enc := by simp only [FileM.enc, go_sem]
-- great
def PortM.great (p : PortM) : Bool := decide ((p.name.size : Int) > 300)
def OutM.great (o : OutM) : Bool := decide ((o.port.name.size : Int) > 300)
def Blk.great (b : Blk) : Bool := decide ((b.src.length : Int) > 40)
def Dgm.great (d : Dgm) : Bool := (((((decide ((d.ins.length : Int) > 40) || decide ((d.outs.length : Int) > 40)) || decide ((d.blocks.length : Int) > 200)) || decide ((d.name.size : Int) > 300)) || d.ins.any PortM.great) || d.outs.any OutM.great) || d.blocks.any Blk.great
def FileM.great (f : FileM) : Bool := (f.ds.take 13).any Dgm.great || decide ((f.ds.length : Int) > 12)
def Dgm.small (d : Dgm) : Prop := d.ins.length ≤ 40 ∧ d.outs.length ≤ 40 ∧ d.blocks.length ≤ 200 ∧ d.name.size ≤ 300 ∧ ∀ b ∈ d.blocks, b.src.length ≤ 40
def FileM.small (f : FileM) : Prop := f.ds.length ≤ 12 ∧ ∀ d ∈ f.ds, d.small
theorem small_of {f : FileM} (h : f.great = false) : f.small := by
 simp only [FileM.great, Bool.or_eq_false_iff, decide_eq_false_iff_not] at h
 obtain ⟨h1, h2⟩ := h
 have hl : f.ds.length ≤ 12 := by omega
 rw [List.take_of_length_le (by omega)] at h1
 refine ⟨hl, fun d hd => ?_⟩
 have := List.any_eq_false.1 h1 d hd
 simp only [Dgm.great, Bool.not_eq_true, Bool.or_eq_false_iff, decide_eq_false_iff_not] at this
 obtain ⟨⟨⟨⟨⟨⟨k1, k2⟩, k3⟩, k4⟩, k5⟩, k6⟩, k7⟩ := this
 refine ⟨by omega, by omega, by omega, by omega, fun b hb => ?_⟩
 have := List.any_eq_false.1 k7 b hb
 simp only [Blk.great, decide_eq_true_eq] at this
 omega
-- the document's answers
def FileM.rblock (f : FileM) (d : Dgm) (b : Blk) : Bool :=
 if (((decide (b.kind < 0) || decide (b.kind > 7)) || decide (b.n < 0)) || decide (b.op < 0)) || decide (b.sub < 0) then false
 else if b.src.any fun s => !f.source d s then false
 else if ((decide (b.kind > 1) && decide (b.n > 0)) || ((b.kind == 1) && decide (b.n > 1))) || ((b.kind != 7) && decide (b.sub > 0)) || ((b.kind == 7) && decide (b.sub ≥ (f.ds.length : Int))) then false
 else if (b.kind == 0) || (b.kind == 1) then ((b.src.length : Int) == 0) && (b.op == 0)
 else if (b.kind == 2) || (b.kind == 4) then ((b.src.length : Int) == 1) && decide (b.op ≤ 1)
 else if b.kind == 3 then (((b.src.length : Int) == 2) && decide (b.op ≥ 1)) && decide (b.op ≤ 15)
 else if b.kind == 5 then ((b.src.length : Int) == 2) && (b.op == 0)
 else if b.kind == 6 then ((b.src.length : Int) == 3) && (b.op == 0)
 else b.op == 0
theorem rblock_eq (f : FileM) (d : Dgm) (b : Blk) (hb : b.src.length ≤ 40) (hn : b.n ≤ 9223372036854775807) : f.rblock d b = f.block d b := by
 obtain ⟨kind, op, sub, bn, bx, by', nl, src⟩ := b
 simp only at hb hn
 simp only [FileM.rblock, FileM.block]
 by_cases hk : (decide (kind < 0) || decide (kind > 7)) = true
 ·rw [if_pos hk, if_pos (by simp only [hk, Bool.true_or])]
 ·rw [if_neg hk]
  simp only [hk, Bool.false_or]
  have hk2 : ¬ kind < 0 ∧ ¬ kind > 7 := by simpa using hk
  have hk3 : kind = 0 ∨ kind = 1 ∨ kind = 2 ∨ kind = 3 ∨ kind = 4 ∨ kind = 5 ∨ kind = 6 ∨ kind = 7 := by omega
  generalize hA : (src.any fun s => !f.source d s) = A
  generalize hL : src.length = L at hb ⊢
  generalize f.ds.length = N
  cases A
  ·rw [Bool.eq_iff_iff]
   rcases hk3 with rfl | rfl | rfl | rfl | rfl | rfl | rfl | rfl <;> simp [kindsT] <;> omega
  ·rcases hk3 with rfl | rfl | rfl | rfl | rfl | rfl | rfl | rfl <;> simp [kindsT]
theorem app_at {α : Type} {en : α → AV} {l : List α} {j : Nat} (hj : j < l.length) (hl : l.length ≤ 1005) (nl : Bool) (sz b : Nat) (hb : b ≤ 4096) : ∀ (σ : Sto) (k : Nat) (v : AV), appAt σ nl sz b ((l.take j).map en) k [v] (some (.cap j sz)) = some (.slo nl sz ((l.take j).map en ++ [v]) k, σ.set k (.cap (j + 1) sz)) := by
 intro σ k v
 have hlen : ((l.take j).map en).length = j := by simp; omega
 rw [appAt_one σ nl sz b _ k j v hlen.symm (by
  rw [hlen]
  have h1 : (j + 1) * b ≤ 1005 * 4096 := Nat.mul_le_mul (by omega) hb
  simp only [fits, Bool.and_eq_true, decide_eq_true_eq]
  omega), hlen]
theorem take_at {α : Type} (en : α → AV) {l : List α} {j : Nat} (hj : j < l.length) : (l.take j).map en ++ [en l[j]] = (l.take (j + 1)).map en := by
 rw [List.take_succ_eq_append_getElem hj, List.map_append]
 rfl
def Blk.own (b : Blk) : Blk := { b with nl := true }
def Dgm.own (d : Dgm) : Dgm := { d with nlI := true, nlO := true, nlB := true, blocks := d.blocks.map Blk.own }
def FileM.own (f : FileM) : FileM := ⟨true, f.ds.map Dgm.own⟩
theorem dgm_own (d : Dgm) : d.own.enc = .agg [str d.name, rowAV 2 true (d.ins.map PortM.enc), rowAV 4 true (d.outs.map OutM.enc), rowAV 7 true (d.blocks.map fun b => b.own.enc)] := by
 simp only [Dgm.enc, Dgm.own, List.map_map]
 rfl
theorem dgm_cells (d : Dgm) : d.enc.cells = [str d.name, rowAV 2 d.nlI (d.ins.map PortM.enc), rowAV 4 d.nlO (d.outs.map OutM.enc), rowAV 7 d.nlB (d.blocks.map Blk.enc)] := rfl
theorem file_own (f : FileM) : f.own.enc = .agg [rowAV 4 true (f.ds.map fun d => d.own.enc)] := by
 simp only [FileM.enc, FileM.own, List.map_map]
 rfl
def PortM.bad (p : PortM) : Bool := decide ((p.name.size : Int) > 65535) || ((p.type != 0) && (p.type != 1))
def FileM.rbad (f : FileM) (d : Dgm) : Bool := ((decide ((d.name.size : Int) > 65535) || d.ins.any PortM.bad) || d.outs.any (fun o => o.port.bad || !f.source d o.src)) || d.blocks.any (fun b => !f.rblock d b)
def FileM.rright (f : FileM) : Bool := !(f.ds.any f.rbad)
/-- Numbers that fit. -/
def FileM.fit (f : FileM) : Prop := ∀ d ∈ f.ds, ∀ b ∈ d.blocks, b.n ≤ 9223372036854775807
theorem bad_eq (p : PortM) : p.bad = !p.right := by
 obtain ⟨name, type⟩ := p
 rw [Bool.eq_iff_iff]
 simp [PortM.bad, PortM.right]
 omega
theorem any_eq {α : Type} {p q : α → Bool} {l : List α} (h : ∀ a ∈ l, p a = q a) : l.any p = l.any q := by
 rw [Bool.eq_iff_iff, List.any_eq_true, List.any_eq_true]
 exact ⟨fun ⟨a, h1, h2⟩ => ⟨a, h1, by rw [← h a h1]; exact h2⟩, fun ⟨a, h1, h2⟩ => ⟨a, h1, by rw [h a h1]; exact h2⟩⟩
theorem rright_eq (f : FileM) (hf : f.small) (hn : f.fit) : f.rright = f.right := by
 have h1 : ∀ d ∈ f.ds, f.rbad d = !f.diagram d := fun d hd => by
  obtain ⟨k1, k2, k3, k4, k5⟩ := hf.2 d hd
  have e1 : d.ins.any PortM.bad = d.ins.any fun p => !p.right := any_eq fun p _ => bad_eq p
  have e2 : (d.outs.any fun o => o.port.bad || !f.source d o.src) = d.outs.any fun o => (!o.port.right || !f.source d o.src) := any_eq fun o _ => by rw [bad_eq]
  have e3 : (d.blocks.any fun b => !f.rblock d b) = d.blocks.any fun b => !f.block d b := any_eq fun b hb => by rw [rblock_eq f d b (k5 b hb) (hn d hd b hb)]
  have l1 : decide ((d.ins.length : Int) ≤ 16777215) = true := by simp; omega
  have l2 : decide ((d.outs.length : Int) ≤ 16777215) = true := by simp; omega
  have l3 : decide ((d.blocks.length : Int) ≤ 16777215) = true := by simp; omega
  have l4 : decide ((d.name.size : Int) ≤ 65535) = true := by simp; omega
  have l5 : decide ((d.name.size : Int) > 65535) = false := by simp; omega
  simp only [FileM.rbad, FileM.diagram, e1, e2, e3, l1, l2, l3, l4, l5, Bool.true_and, Bool.false_or, Bool.not_and, Bool.not_not]
 have l0 : decide ((f.ds.length : Int) ≤ 16777215) = true := by have := hf.1; simp; omega
 simp only [FileM.rright, FileM.right, l0, Bool.true_and, any_eq h1]
theorem file_len (f : FileM) : f.enc.cells.length = 1 := rfl
theorem own_results (f : FileM) (b : Blk) : f.own.results b.own = f.results b := by
 simp only [FileM.results, FileM.own, Blk.own, List.length_map, List.getElem?_map]
 cases f.ds[b.sub.toNat]? <;> rfl
theorem own_source (f : FileM) (d : Dgm) (s : Src) : f.own.source d.own s = f.source d s := by
 unfold FileM.source
 rw [show d.own.blocks = d.blocks.map Blk.own from rfl, List.length_map, List.getElem?_map]
 cases d.blocks[s.block.toNat]? with
 | none => rfl
 | some b =>
  simp only [Option.map_some, own_results]
  rfl
theorem own_block (f : FileM) (d : Dgm) (b : Blk) : f.own.block d.own b.own = f.block d b := by
 have h1 : (fun s => !f.own.source d.own s) = fun s => !f.source d s := by
  funext s
  rw [own_source]
 unfold FileM.block
 rw [h1, show f.own.ds = f.ds.map Dgm.own from rfl, List.length_map]
 rfl
theorem own_diagram (f : FileM) (d : Dgm) : f.own.diagram d.own = f.diagram d := by
 have e1 : (fun o : OutM => (!o.port.right || !f.own.source d.own o.src)) = fun o => (!o.port.right || !f.source d o.src) := by
  funext o
  rw [own_source]
 have e2 : (d.own.blocks.any fun b => !f.own.block d.own b) = d.blocks.any fun b => !f.block d b := by
  rw [show d.own.blocks = d.blocks.map Blk.own from rfl, List.any_map]
  congr 1
  funext b
  exact congrArg (!·) (own_block f d b)
 unfold FileM.diagram
 rw [e1, e2, show d.own.blocks = d.blocks.map Blk.own from rfl, List.length_map]
 rfl
theorem own_right (f : FileM) : f.own.right = f.right := by
 have e2 : (f.own.ds.any fun d => !f.own.diagram d) = f.ds.any fun d => !f.diagram d := by
  rw [show f.own.ds = f.ds.map Dgm.own from rfl, List.any_map]
  congr 1
  funext d
  exact congrArg (!·) (own_diagram f d)
 unfold FileM.right
 rw [e2, show f.own.ds = f.ds.map Dgm.own from rfl, List.length_map]
theorem own_ok {f : FileM} (h : f.ok) : f.own.ok := by
 obtain ⟨h1, h2⟩ := h
 refine ⟨by simpa [FileM.own] using h1, fun d hd => ?_⟩
 obtain ⟨d', hd', rfl⟩ := List.mem_map.1 hd
 obtain ⟨k1, k2, k3, k4, k5⟩ := h2 d' hd'
 refine ⟨k1, k2, k3, by simpa [Dgm.own] using k4, fun b hb => ?_⟩
 obtain ⟨b', hb', rfl⟩ := List.mem_map.1 hb
 exact k5 b' hb'
end Go.Proofs.Tryd
/-! Files of the document, as they are read. -/
namespace Go.Proofs.Tryd
set_option linter.unusedSimpArgs false
set_option linter.unusedVariables false
open Go Go.Proofs.Ev
theorem wf_max {n : Int} (h : (Lit.int .i64 n).wf = true) : n ≤ 9223372036854775807 := by
  have m : IntKind.i64.max = 9223372036854775807 := by decide
  simp [Lit.wf, m] at h
  omega
theorem dec_src {H : Type} {enc : TypeId × Value → H} {W : World} {base : Nat} {sp : Nat → Bool} {held : Bool} {n : Nat} {cs : List Value} {x : DataW H × List MemPlace} (h : DataW.trod enc Tryd.prog W base sp held n 67 cs = some x) : ∃ a : Src, CellsOf W a.enc.cells cs ∧ (True) := by
  obtain ⟨xs, m, hm, rfl, hl, hlen, hf⟩ := DataW.trod_struct underlying67 h
  obtain ⟨y0, g0⟩ := field_at hlen hf 0 rfl (t := 3) (o := 0) (k := 1) rfl rfl (by kernel_rfl)
  obtain ⟨a, c0, w0⟩ := dec_int underlying3 g0
  obtain ⟨y1, g1⟩ := field_at hlen hf 1 rfl (t := 3) (o := 1) (k := 1) rfl rfl (by kernel_rfl)
  obtain ⟨b, c1, w1⟩ := dec_int underlying3 g1
  have hall := CellsOf.all (CellsOf.snoc (CellsOf.snoc (CellsOf.start cs) c0) c1) (by rw [hl]; kernel_rfl)
  exact ⟨⟨a, b⟩, hall, trivial⟩
theorem dec_port {H : Type} {enc : TypeId × Value → H} {W : World} {base : Nat} {sp : Nat → Bool} {held : Bool} {n : Nat} {cs : List Value} {x : DataW H × List MemPlace} (h : DataW.trod enc Tryd.prog W base sp held n 91 cs = some x) : ∃ a : PortM, CellsOf W a.enc.cells cs ∧ (a.name.size ≤ maxLen) := by
  obtain ⟨xs, m, hm, rfl, hl, hlen, hf⟩ := DataW.trod_struct underlying91 h
  obtain ⟨y0, g0⟩ := field_at hlen hf 0 rfl (t := 9) (o := 0) (k := 1) rfl rfl (by kernel_rfl)
  obtain ⟨a, c0, w0⟩ := dec_str underlying9 g0
  obtain ⟨y1, g1⟩ := field_at hlen hf 1 rfl (t := 3) (o := 1) (k := 1) rfl rfl (by kernel_rfl)
  obtain ⟨b, c1, w1⟩ := dec_int underlying3 g1
  have hall := CellsOf.all (CellsOf.snoc (CellsOf.snoc (CellsOf.start cs) c0) c1) (by rw [hl]; kernel_rfl)
  exact ⟨⟨a, b⟩, hall, w0⟩
theorem dec_out {H : Type} {enc : TypeId × Value → H} {W : World} {base : Nat} {sp : Nat → Bool} {held : Bool} {n : Nat} {cs : List Value} {x : DataW H × List MemPlace} (h : DataW.trod enc Tryd.prog W base sp held n 93 cs = some x) : ∃ a : OutM, CellsOf W a.enc.cells cs ∧ (a.port.name.size ≤ maxLen) := by
  obtain ⟨xs, m, hm, rfl, hl, hlen, hf⟩ := DataW.trod_struct underlying93 h
  obtain ⟨y0, g0⟩ := field_at hlen hf 0 rfl (t := 91) (o := 0) (k := 2) rfl rfl (by kernel_rfl)
  obtain ⟨a, c0, w0⟩ := dec_port g0
  obtain ⟨y1, g1⟩ := field_at hlen hf 1 rfl (t := 67) (o := 2) (k := 2) rfl rfl (by kernel_rfl)
  obtain ⟨b, c1, w1⟩ := dec_src g1
  have hall := CellsOf.all (CellsOf.snoc (CellsOf.snoc (CellsOf.start cs) c0) c1) (by rw [hl]; kernel_rfl)
  exact ⟨⟨a, b⟩, hall, w0⟩
theorem dec_blk {H : Type} {enc : TypeId × Value → H} {W : World} {base : Nat} {sp : Nat → Bool} {held : Bool} {n : Nat} {cs : List Value} {x : DataW H × List MemPlace} (h : DataW.trod enc Tryd.prog W base sp held n 96 cs = some x) : ∃ a : Blk, CellsOf W a.enc.cells cs ∧ (a.ok ∧ a.n ≤ 9223372036854775807) := by
  obtain ⟨xs, m, hm, rfl, hl, hlen, hf⟩ := DataW.trod_struct underlying96 h
  obtain ⟨y0, g0⟩ := field_at hlen hf 0 rfl (t := 3) (o := 0) (k := 1) rfl rfl (by kernel_rfl)
  obtain ⟨a, c0, w0⟩ := dec_int underlying3 g0
  obtain ⟨y1, g1⟩ := field_at hlen hf 1 rfl (t := 3) (o := 1) (k := 1) rfl rfl (by kernel_rfl)
  obtain ⟨b, c1, w1⟩ := dec_int underlying3 g1
  obtain ⟨y2, g2⟩ := field_at hlen hf 2 rfl (t := 3) (o := 2) (k := 1) rfl rfl (by kernel_rfl)
  obtain ⟨c, c2, w2⟩ := dec_int underlying3 g2
  obtain ⟨y3, g3⟩ := field_at hlen hf 3 rfl (t := 2) (o := 3) (k := 1) rfl rfl (by kernel_rfl)
  obtain ⟨d, c3, w3⟩ := dec_int underlying2 g3
  obtain ⟨y4, g4⟩ := field_at hlen hf 4 rfl (t := 21) (o := 4) (k := 1) rfl rfl (by kernel_rfl)
  obtain ⟨e, c4, w4⟩ := dec_int underlying21 g4
  obtain ⟨y5, g5⟩ := field_at hlen hf 5 rfl (t := 21) (o := 5) (k := 1) rfl rfl (by kernel_rfl)
  obtain ⟨f, c5, w5⟩ := dec_int underlying21 g5
  obtain ⟨y6, g6⟩ := field_at hlen hf 6 rfl (t := 94) (o := 6) (k := 1) rfl rfl (by kernel_rfl)
  obtain ⟨nl6, l, c6, w6, z6⟩ := dec_slice (sz := 2) Src.enc (fun _ => True) underlying94 (e := 67) (by kernel_rfl) (by decide) (fun _ => rfl) (fun n _ cs x hx => dec_src hx) g6
  have hall := CellsOf.all (CellsOf.snoc (CellsOf.snoc (CellsOf.snoc (CellsOf.snoc (CellsOf.snoc (CellsOf.snoc (CellsOf.snoc (CellsOf.start cs) c0) c1) c2) c3) c4) c5) c6) (by rw [hl]; kernel_rfl)
  exact ⟨⟨a, b, c, d, e, f, nl6, l⟩, hall, ⟨z6, wf_max w3⟩⟩
theorem dec_dgm {H : Type} {enc : TypeId × Value → H} {W : World} {base : Nat} {sp : Nat → Bool} {held : Bool} {n : Nat} {cs : List Value} {x : DataW H × List MemPlace} (h : DataW.trod enc Tryd.prog W base sp held n 62 cs = some x) : ∃ a : Dgm, CellsOf W a.enc.cells cs ∧ (a.ok ∧ ∀ b ∈ a.blocks, b.n ≤ 9223372036854775807) := by
  obtain ⟨xs, m, hm, rfl, hl, hlen, hf⟩ := DataW.trod_struct underlying62 h
  obtain ⟨y0, g0⟩ := field_at hlen hf 0 rfl (t := 9) (o := 0) (k := 1) rfl rfl (by kernel_rfl)
  obtain ⟨a, c0, w0⟩ := dec_str underlying9 g0
  obtain ⟨y1, g1⟩ := field_at hlen hf 1 rfl (t := 58) (o := 1) (k := 1) rfl rfl (by kernel_rfl)
  obtain ⟨nl1, l1, c1, w1, z1⟩ := dec_slice (sz := 2) PortM.enc (fun a => a.name.size ≤ maxLen) underlying58 (e := 91) (by kernel_rfl) (by decide) (fun _ => rfl) (fun n _ cs x hx => dec_port hx) g1
  obtain ⟨y2, g2⟩ := field_at hlen hf 2 rfl (t := 59) (o := 2) (k := 1) rfl rfl (by kernel_rfl)
  obtain ⟨nl2, l2, c2, w2, z2⟩ := dec_slice (sz := 4) OutM.enc (fun a => a.port.name.size ≤ maxLen) underlying59 (e := 93) (by kernel_rfl) (by decide) (fun _ => rfl) (fun n _ cs x hx => dec_out hx) g2
  obtain ⟨y3, g3⟩ := field_at hlen hf 3 rfl (t := 60) (o := 3) (k := 1) rfl rfl (by kernel_rfl)
  obtain ⟨nl3, l3, c3, w3, z3⟩ := dec_slice (sz := 7) Blk.enc (fun a => a.ok ∧ a.n ≤ 9223372036854775807) underlying60 (e := 96) (by kernel_rfl) (by decide) (fun _ => rfl) (fun n _ cs x hx => dec_blk hx) g3
  have hall := CellsOf.all (CellsOf.snoc (CellsOf.snoc (CellsOf.snoc (CellsOf.snoc (CellsOf.start cs) c0) c1) c2) c3) (by rw [hl]; kernel_rfl)
  exact ⟨⟨a, nl1, l1, nl2, l2, nl3, l3⟩, hall, ⟨⟨w0, ⟨z1, w1⟩, ⟨z2, w2⟩, z3, fun b hb => (w3 b hb).1⟩, fun b hb => (w3 b hb).2⟩⟩
theorem dec_file {H : Type} {enc : TypeId × Value → H} {W : World} {base : Nat} {sp : Nat → Bool} {held : Bool} {n : Nat} {cs : List Value} {x : DataW H × List MemPlace} (h : DataW.trod enc Tryd.prog W base sp held n 50 cs = some x) : ∃ a : FileM, CellsOf W a.enc.cells cs ∧ (a.ok ∧ a.fit) := by
  obtain ⟨xs, m, hm, rfl, hl, hlen, hf⟩ := DataW.trod_struct underlying50 h
  obtain ⟨y0, g0⟩ := field_at hlen hf 0 rfl (t := 48) (o := 0) (k := 1) rfl rfl (by kernel_rfl)
  obtain ⟨nl0, l, c0, w0, z0⟩ := dec_slice (sz := 4) Dgm.enc (fun a => a.ok ∧ ∀ b ∈ a.blocks, b.n ≤ 9223372036854775807) underlying48 (e := 62) (by kernel_rfl) (by decide) (fun _ => rfl) (fun n _ cs x hx => dec_dgm hx) g0
  have hall := CellsOf.all (CellsOf.snoc (CellsOf.start cs) c0) (by rw [hl]; kernel_rfl)
  exact ⟨⟨nl0, l⟩, hall, ⟨⟨z0, fun d hd => (w0 d hd).1⟩, fun d hd => (w0 d hd).2⟩⟩
theorem dec_arr {H : Type} {enc : TypeId × Value → H} {W : World} {base : Nat} {sp : Nat → Bool} {held : Bool} {n : Nat} {cs : List Value} {x : DataW H × List MemPlace} (h : DataW.trod enc Tryd.prog W base sp held n 51 cs = some x) : ∃ a b c : Int, CellsOf W [.val (.int .i64 a), .val (.int .i64 b), .val (.int .i64 c)] cs := by
  obtain ⟨xs, m, _, rfl, hl, hlen, hf⟩ := DataW.trod_array underlying51 h
  have z : prog.cellsOf 3 = 1 := by kernel_rfl
  have get : ∀ i, i < 3 → ∃ y, DataW.trod enc prog W base sp held m 3 ((cs.drop i).take 1) = some y := fun i hi => by
    have := hf i hi
    rw [z, Nat.mul_one] at this
    exact ⟨xs[i]'(by omega), by rw [this]; exact List.getElem?_eq_getElem _⟩
  obtain ⟨_, g0⟩ := get 0 (by decide)
  obtain ⟨_, g1⟩ := get 1 (by decide)
  obtain ⟨_, g2⟩ := get 2 (by decide)
  obtain ⟨a, c0, _⟩ := dec_int underlying3 g0
  obtain ⟨b, c1, _⟩ := dec_int underlying3 g1
  obtain ⟨c, c2, _⟩ := dec_int underlying3 g2
  exact ⟨a, b, c, CellsOf.all (CellsOf.snoc (CellsOf.snoc (CellsOf.snoc (CellsOf.start cs) c0) c1) c2) (by rw [hl]; kernel_rfl)⟩
theorem arg_arr {P : Program} {W : World} {r : Reach} {b0 : Nat} {t : TypeId} {k e : Nat} {v : Value} (ht : P.underlying t = some (.array k e)) (hv : Value.okWide P W r b0 t v) : ∃ cs, v = .agg cs := by
  unfold Value.okWide at hv
  rw [ht] at hv
  obtain ⟨cs, h, _⟩ := hv
  exact ⟨cs, h⟩
end Go.Proofs.Tryd
/-! Orders of things that hang on others, as plain things. -/
namespace Go.Proofs.Tryd
set_option linter.unusedSimpArgs false
set_option linter.unusedVariables false
open Go Go.Proofs.Ev
namespace Fl
abbrev bool (b : Bool) : AV := .val (.bool b)
def bools (l : List Bool) : List AV := l.map bool
/-- Is a thing next that may come: it has not come, and all on which it hangs have. -/
def rdy (R : Nat → Nat → Bool) (n : Nat) (d : List Bool) (i : Nat) : Bool := !d.getD i false && (List.range n).all fun k => d.getD k false || !R i k
def nxt (R : Nat → Nat → Bool) (n : Nat) (d : List Bool) : Option Nat := (List.range n).find? (rdy R n d)
def ordGo (R : Nat → Nat → Bool) (n : Nat) : Nat → List Bool → List Nat → Option (List Nat)
 | 0, _, out => some out
 | m + 1, d, out => match nxt R n d with
  | none => none
  | some i => ordGo R n m (d.set i true) (out ++ [i])
def ord (R : Nat → Nat → Bool) (n : Nat) : Option (List Nat) := ordGo R n n (List.replicate n false) []
theorem rdy_congr {R S : Nat → Nat → Bool} {n : Nat} (h : ∀ i k, i < n → k < n → R i k = S i k) {i : Nat} (hi : i < n) (d : List Bool) : rdy R n d i = rdy S n d i := by
 unfold rdy
 congr 1
 rw [Bool.eq_iff_iff, List.all_eq_true, List.all_eq_true]
 constructor <;> intro g k hk
 ·rw [← h i k hi (List.mem_range.1 hk)]; exact g k hk
 ·rw [h i k hi (List.mem_range.1 hk)]; exact g k hk
theorem find_congr {α : Type} {p q : α → Bool} : ∀ {l : List α}, (∀ a ∈ l, p a = q a) → l.find? p = l.find? q
 | [], _ => rfl
 | a :: l, h => by
  rw [List.find?_cons, List.find?_cons, h a (by simp), find_congr fun b hb => h b (by simp [hb])]
theorem nxt_congr {R S : Nat → Nat → Bool} {n : Nat} (h : ∀ i k, i < n → k < n → R i k = S i k) (d : List Bool) : nxt R n d = nxt S n d :=
 find_congr fun i hi => rdy_congr h (List.mem_range.1 hi) d
theorem ordGo_congr {R S : Nat → Nat → Bool} {n : Nat} (h : ∀ i k, i < n → k < n → R i k = S i k) : ∀ (m : Nat) (d : List Bool) (out : List Nat), ordGo R n m d out = ordGo S n m d out
 | 0, _, _ => rfl
 | m + 1, d, out => by
  unfold ordGo
  rw [nxt_congr h]
  cases nxt S n d with
  | none => rfl
  | some i => exact ordGo_congr h m _ _
theorem ord_congr {R S : Nat → Nat → Bool} {n : Nat} (h : ∀ i k, i < n → k < n → R i k = S i k) : ord R n = ord S n := ordGo_congr h _ _ _
theorem nxt_lt {R : Nat → Nat → Bool} {n : Nat} {d : List Bool} {i : Nat} (h : nxt R n d = some i) : i < n ∧ rdy R n d i = true := by
 exact ⟨List.mem_range.1 (List.mem_of_find?_eq_some h), List.find?_some h⟩
/-- Which things stand ahead of each other in an order that is found. -/
structure OrdOk (R : Nat → Nat → Bool) (n : Nat) (d : List Bool) (out : List Nat) : Prop where
 len : d.length = n
 mem : ∀ k, k < n → (d.getD k false = true ↔ k ∈ out)
 lt : ∀ k ∈ out, k < n
 nodup : out.Nodup
 ahead : ∀ (p : List Nat) (i : Nat) (q : List Nat), out = p ++ i :: q → ∀ k, k < n → R i k = true → k ∈ p
theorem getD_set_true {d : List Bool} {i k : Nat} (hi : i < d.length) : (d.set i true).getD k false = (decide (k = i) || d.getD k false) := by
 rw [List.getD_eq_getElem?_getD, List.getElem?_set, List.getD_eq_getElem?_getD]
 by_cases e : i = k
 ·subst e
  simp [hi]
 ·have e' : ¬ k = i := fun h => e h.symm
  simp [e, e']
theorem OrdOk.step {R : Nat → Nat → Bool} {n : Nat} {d : List Bool} {out : List Nat} (h : OrdOk R n d out) {i : Nat} (hx : nxt R n d = some i) : OrdOk R n (d.set i true) (out ++ [i]) := by
 obtain ⟨hi, hr⟩ := nxt_lt hx
 unfold rdy at hr
 simp only [Bool.and_eq_true, Bool.not_eq_true', List.all_eq_true, List.mem_range, Bool.or_eq_true] at hr
 obtain ⟨hd, hr⟩ := hr
 have hni : i ∉ out := fun hm => by
  rw [(h.mem i hi).2 hm] at hd
  cases hd
 refine ⟨by simp [h.len], fun k hk => ?_, fun k hk => ?_, ?_, ?_⟩
 ·rw [getD_set_true (by rw [h.len]; exact hi), List.mem_append, ← h.mem k hk]
  simp only [Bool.or_eq_true, decide_eq_true_eq, List.mem_singleton]
  exact ⟨fun g => g.symm, fun g => g.symm⟩
 ·rcases List.mem_append.1 hk with hk | hk
  ·exact h.lt k hk
  ·rw [List.mem_singleton.1 hk]; exact hi
 ·rw [List.nodup_append]
  refine ⟨h.nodup, by simp, fun a ha b hb => ?_⟩
  rw [List.mem_singleton.1 hb]
  rintro rfl
  exact hni ha
 ·intro p j q e k hk hR
  rcases List.eq_nil_or_concat q with rfl | ⟨q', z, rfl⟩
  ·have e2 : out = p ∧ i = j := by simpa using List.append_inj' e rfl
   obtain ⟨rfl, rfl⟩ := e2
   rcases hr k hk with g | g
   ·exact (h.mem k hk).1 g
   ·rw [hR] at g
    cases g
  ·have e2 : out = p ++ j :: q' ∧ i = z := by
    have : out ++ [i] = (p ++ j :: q') ++ [z] := by rw [e]; simp
    simpa using List.append_inj' this rfl
   exact h.ahead p j q' e2.1 k hk hR
theorem OrdOk.start (R : Nat → Nat → Bool) (n : Nat) : OrdOk R n (List.replicate n false) [] :=
 ⟨by simp, fun k hk => by simp [List.getD_eq_getElem?_getD, List.getElem?_replicate, hk], (fun k hk => by cases hk), List.nodup_nil, fun p i q e => by simp at e⟩
theorem ordGo_ok {R : Nat → Nat → Bool} {n : Nat} : ∀ (m : Nat) (d : List Bool) (out : List Nat) {o : List Nat}, OrdOk R n d out → ordGo R n m d out = some o → ∃ d', OrdOk R n d' o ∧ o.length = out.length + m
 | 0, d, out, o, h, e => by
  cases e
  exact ⟨d, h, rfl⟩
 | m + 1, d, out, o, h, e => by
  unfold ordGo at e
  cases hx : nxt R n d with
  | none => rw [hx] at e; cases e
  | some i =>
   rw [hx] at e
   obtain ⟨d', h1, h2⟩ := ordGo_ok m _ _ (h.step hx) e
   exact ⟨d', h1, by rw [h2]; simp; omega⟩
/-- An order that is found: each thing once, behind all on which it hangs. -/
theorem ord_ok {R : Nat → Nat → Bool} {n : Nat} {o : List Nat} (h : ord R n = some o) : o.length = n ∧ (∀ k ∈ o, k < n) ∧ o.Nodup ∧ ∀ (p : List Nat) (i : Nat) (q : List Nat), o = p ++ i :: q → ∀ k, k < n → R i k = true → k ∈ p := by
 obtain ⟨d, h1, h2⟩ := ordGo_ok n _ _ (OrdOk.start R n) h
 exact ⟨by simpa using h2, h1.lt, h1.nodup, h1.ahead⟩
end Fl
end Go.Proofs.Tryd
/-! Live rows of one-celled things: made, read, written, frozen. -/
namespace Go.Proofs.Tryd
set_option linter.unusedSimpArgs false
set_option linter.unusedVariables false
open Go Go.Proofs.Ev
namespace Fl
variable {α : Type}
theorem aZ (v : AV) (j : Nat) : aZeros [v] j = List.replicate j v := by
 simp only [aZeros, List.length_singleton, Nat.mod_one, List.getD_cons_zero]
 exact List.map_const' ..  |>.trans (by simp)
theorem at_osl {o n : Nat} {k : IntKind} {i : Nat} (h : i < n) : aAt 1 (.osl o 0 n 1) (.val (.int k (i : Nat))) = some (.ref o i) := by
 simp [aAt]
 omega
theorem dr_map (en : α → AV) {c : List α} {i : Nat} (h : i < c.length) : (c.map en).drop i = en c[i] :: (c.map en).drop (i + 1) := by
 rw [List.drop_eq_getElem_cons (by simpa using h)]
 simp
theorem spl_map (en : α → AV) {c : List α} {i : Nat} (h : i < c.length) (v : α) : (c.map en).take i ++ en v :: (c.map en).drop (i + 1) = (c.set i v).map en := by
 rw [List.map_set, List.set_eq_take_append_cons_drop, if_pos (by simpa using h)]
theorem flat_map (en : α → AV) (hen : ∀ a, (en a).cells = [en a]) (c : List α) : (c.map en).flatMap AV.cells = c.map en := by
 induction c with
 | nil => rfl
 | cons x c ih =>
  show (en x).cells ++ (c.map en).flatMap AV.cells = _
  rw [ih, hen]
  rfl
theorem frz_live (en : α → AV) (hen : ∀ a, (en a).cells = [en a]) (hbel : ∀ a n, (en a).bel n = true) {n o : Nat} {σ : Sto} {c : List α} {l : Nat} (ho : n ≤ o) (h : σ[o]? = some (.cells (c.map en))) (hl : l = c.length) : Frz n σ (.osl o 0 l 1) (.sl 1 (c.map en)) := by
 subst hl
 refine .row ho h (by simp) ?_ (by simp) (fun e he => by obtain ⟨x, _, rfl⟩ := List.mem_map.1 he; rw [hen]; rfl)
 rw [List.drop_zero, Nat.mul_one, List.take_of_length_le (by simp), flat_map en hen]
 exact FrzL.keep (belL_map _ _ fun _ _ => hbel _ _)
theorem mkB {n : Nat} (hn : n ≤ 2000) (σ : Sto) (k k1 : IntKind) : aMakeSlice prog σ 104 (.val (.int k (n : Nat))) (.val (.int k1 (n : Nat))) = some (.osl σ.length 0 n 1, σ ++ [.cells (bools (List.replicate n false))]) := by
 rw [mk104, if_pos ⟨by omega, by simp [fits]; omega⟩, Int.toNat_natCast, Nat.mul_one, aZ, bools, List.map_replicate]
end Fl
end Go.Proofs.Tryd
/-! Flow: numbers alike, orders by the reference. -/
namespace Go.Proofs.Tryd
set_option linter.unusedSimpArgs false
set_option linter.unusedVariables false
open Go Go.Proofs.Ev
namespace Fl
variable {Γ : List (Nat × List AV)}
attribute [local go_sem] true_and List.length_map len_row one_row List.drop_zero
def natA (n : Nat) : AV := i64 ((n : Nat) : Int)
theorem wrapI {n : Int} (h1 : -1000000 ≤ n) (h2 : n ≤ 1000000) : IntKind.wrap .i64 n = n := wrap_i64 (by omega) (by omega)
def rowB (r : List Bool) : AV := rowAV 1 false (bools r)
def mat (m : List (List Bool)) (i k : Nat) : Bool := (m.getD i []).getD k false
def ordAV : Option (List Nat) → AV
 | some o => .tup [rowAV 1 true (o.map natA), .val (.bool true)]
 | none => .tup [.nilsl, .val (.bool false)]
def nxA (R : Nat → Nat → Bool) (n : Nat) (d : List Bool) (j : Nat) : Int := match ((List.range n).drop j).find? (rdy R n d) with
 | some i => ((i : Nat) : Int)
 | none => -1
theorem nxA_end (R : Nat → Nat → Bool) (n : Nat) (d : List Bool) : nxA R n d n = -1 := by
 unfold nxA
 rw [List.drop_of_length_le (by simp)]
 rfl
theorem nxA_step {R : Nat → Nat → Bool} {n : Nat} {d : List Bool} {j : Nat} (h : j < n) : nxA R n d j = if rdy R n d j = true then ((j : Nat) : Int) else nxA R n d (j + 1) := by
 unfold nxA
 rw [List.drop_eq_getElem_cons (by simpa using h), List.find?_cons]
 simp only [List.getElem_range]
 cases rdy R n d j <;> rfl
theorem nxA_zero (R : Nat → Nat → Bool) (n : Nat) (d : List Bool) : nxA R n d 0 = match nxt R n d with | some i => ((i : Nat) : Int) | none => -1 := rfl
theorem dr_bool {d : List Bool} {i : Nat} (h : i < d.length) : (bools d).drop i = bool (d.getD i false) :: (bools d).drop (i + 1) := by
 rw [bools, dr_map bool h, List.getD_eq_getElem?_getD, List.getElem?_eq_getElem h]
 rfl
theorem spl_bool {d : List Bool} {i : Nat} (h : i < d.length) (v : Bool) : (bools d).take i ++ bool v :: (bools d).drop (i + 1) = bools (d.set i v) := spl_map bool h v
theorem ap_nat {l : List Nat} (hl : l.length ≤ 2000) (n : Nat) (σ : Sto) (k : Nat) : appAt σ true 1 8 (l.map natA) k [.val (.int .i64 ((n : Nat) : Int))] (some (.cap l.length 1)) = some (.slo true 1 ((l ++ [n]).map natA) k, σ.set k (.cap (l.length + 1) 1)) := by
 have := Go.Proofs.Ev.app_at (en := natA) (l := l ++ [n]) (j := l.length) (by simp) (by simp; omega) true 1 8 (by decide) σ k (natA n)
 simpa [natA] using this
/-- The number of the first diagram of a name. -/
def findD (l : List Dgm) (s : ByteArray) : Option Nat := l.findIdx? fun d => decide (d.name = s)
def numA : Option Nat → Int
 | some i => ((i : Nat) : Int)
 | none => -1
theorem findD_at {l : List Dgm} {s : ByteArray} {i : Nat} (hi : i < l.length) (hn : findD (l.take i) s = none) (he : l[i].name = s) : findD l s = some i := by
 unfold findD at *
 rw [List.findIdx?_eq_some_iff_getElem]
 refine ⟨hi, by simpa using he, fun j hj => ?_⟩
 rw [List.findIdx?_eq_none_iff] at hn
 have := hn (l[j]'(by omega)) (by rw [List.mem_take_iff_getElem]; exact ⟨j, by omega, rfl⟩)
 simpa using this
theorem findD_snoc {l : List Dgm} {s : ByteArray} {i : Nat} (hi : i < l.length) (hn : findD (l.take i) s = none) (he : ¬ l[i].name = s) : findD (l.take (i + 1)) s = none := by
 unfold findD at *
 rw [List.findIdx?_eq_none_iff] at *
 rw [List.take_succ_eq_append_getElem hi]
 intro x hx
 rcases List.mem_append.1 hx with h | h
 ·exact hn x h
 ·rw [List.mem_singleton.1 h]
  simpa using he
theorem bools_bel (r : List Bool) (n : Nat) : belL n (bools r) = true := belL_map _ _ fun _ _ => rfl
theorem rowB_bel (r : List Bool) (n : Nat) : (rowB r).bel n = true := by
 unfold rowB bools
 exact row_bel (fun _ _ => rfl) _ _ _ _
def hit (l : List Bool) (s : Src) : List Bool := if s.block ≥ 0 then l.set s.block.toNat true else l
/-- On which blocks a block hangs. -/
def rowF (n : Nat) (b : Blk) : List Bool := if b.kind = 4 then List.replicate n false else b.src.foldl hit (List.replicate n false)
theorem hit_len (l : List Bool) (s : Src) : (hit l s).length = l.length := by
 unfold hit
 split <;> simp
theorem hits_len (l : List Src) : ∀ r : List Bool, (l.foldl hit r).length = r.length := by
 induction l with
 | nil => exact fun _ => rfl
 | cons s l ih =>
  intro r
  rw [List.foldl_cons, ih, hit_len]
theorem hits_snoc {l : List Src} {j : Nat} (hj : j < l.length) (r : List Bool) : (l.take (j + 1)).foldl hit r = hit ((l.take j).foldl hit r) l[j] := by
 rw [List.take_succ_eq_append_getElem hj, List.foldl_append]
 rfl
theorem rowF_len (n : Nat) (b : Blk) : (rowF n b).length = n := by
 unfold rowF
 split
 ·simp
 ·rw [hits_len]; simp
/-- A diagram's sources are blocks of its own. -/
def inB (d : Dgm) : Prop := ∀ b ∈ d.blocks, ∀ s ∈ b.src, s.block < (d.blocks.length : Int)
theorem rowB_eq (r : List Bool) : AV.sl 1 (bools r) = rowB r := by rw [rowB, row_false]
theorem bools_flat (r : List Bool) : (bools r).flatMap AV.cells = bools r := flat_map bool (fun _ => rfl) r
theorem bools_one (r : List Bool) : ∀ e ∈ bools r, e.cells.length = 1 := fun e he => by
 obtain ⟨x, _, rfl⟩ := List.mem_map.1 he
 rfl
theorem rowB_all (r : List Bool) : (rowB r).cells.all AV.one = true := by
 unfold rowB bools
 cases r <;> rfl
theorem rowB_len (r : List Bool) : (rowB r).cells.length = 1 := by
 unfold rowB bools
 cases r <;> rfl
theorem dgm_cbel (d : Dgm) (n : Nat) : AO.bel n (.cells [str d.name, rowAV 2 d.nlI (d.ins.map PortM.enc), rowAV 4 d.nlO (d.outs.map OutM.enc), rowAV 7 d.nlB (d.blocks.map Blk.enc)]) = true := by simp [AO.bel, belL, AV.bel, row_bel port_bel, row_bel out_bel, row_bel blk_bel]
theorem dgm_cbel' (d : Dgm) (n : Nat) : AO.bel n (.cells d.enc.cells) = true := by rw [dgm_cells]; exact dgm_cbel d n
set_option maxRecDepth 100000 in
theorem alike_calls (na nb : Bool) (a b : List Nat) (ha : a.length ≤ 2000) : APure prog Γ 13 [rowAV 1 na (a.map natA), rowAV 1 nb (b.map natA)] (.val (.bool (decide (a = b)))) := by
 refine APure.of func13 rfl fun σ => ?_
 simp only [ntmps13, List.length_cons, List.length_nil, Nat.reduceAdd, Nat.reduceSub, List.replicate_succ, List.replicate_zero, List.cons_append, List.nil_append]
 refine AW.regl false [4] (by rfl) fun K1 hK1 => ?_
 simp only [go_sem, Nat.reduceAdd, Nat.reduceEqDiff, Nat.reduceLeDiff]
 refine hK1 _ _ ?_
 conv => enter [5]; simp only [sl1, sl0, sz0, sz1]
 refine AW.seq_k fun K2 hK2 => ?_
 refine AW.regl false [10] (by rfl) fun K3 hK3 => ?_
 simp only [go_sem, Nat.reduceAdd, Nat.reduceEqDiff, Nat.reduceLeDiff]
 refine hK3 _ _ ?_
 conv => enter [5]; simp only [sl1, sl0, sz0, sz1]
 refine AW.cond rfl (fun hc10 => ?_) (fun hc10 => ?_)
 ·skip
  have hne : a ≠ b := fun e => by subst e; simp at hc10
  refine AW.regl false [4] (by rfl) fun K4 hK4 => ?_
  simp only [go_sem, Nat.reduceAdd, Nat.reduceEqDiff, Nat.reduceLeDiff]
  refine hK4 _ _ ?_
  conv => enter [5]; simp only [sl1, sl0, sz0, sz1]
  refine AW.ret ⟨.inr rfl, _, rfl, by simp, ?_⟩
  rw [decide_eq_false hne]
  exact .keep rfl
 ·skip
  have hlen : a.length = b.length := by
   have h0 : (a.length : Int) = b.length := by simpa using hc10
   omega
  refine AW.skip ?_
  refine hK2 _ _ ?_
  refine AW.seq_k fun K5 hK5 => ?_
  refine AW.regl false [5] (by rfl) fun K6 hK6 => ?_
  simp only [go_sem, Nat.reduceAdd, Nat.reduceEqDiff, Nat.reduceLeDiff]
  refine hK6 _ _ ?_
  conv => enter [5]; simp only [sl1, sl0, sz0, sz1]
  refine AW.block ?_
  refine AW.loop_wk (α := Nat) (fun i => [(rowAV 1 na (a.map natA)), (rowAV 1 nb (b.map natA)), .any, .any, .any, (.val (.int .i64 ((i : Nat) : Int))), .any, .any, .any, .any, .any, .any, .any, .any, .any, .any, .any, .any, .any, .any, .any, .any, .any, .any, .any, .any]) (fun i => σ) (fun i => a.length - i) (fun i => i ≤ a.length ∧ a.take i = b.take i) 0 ?_ ?_
  ·exact ⟨⟨Nat.zero_le _, rfl⟩, by simp [Wk], rfl⟩
  ·rintro i ⟨hi, hti⟩
   refine AW.seq_k fun K7 hK7 => ?_
   refine AW.regl false [14] (by rfl) fun K8 hK8 => ?_
   simp only [go_sem, Nat.reduceAdd, Nat.reduceEqDiff, Nat.reduceLeDiff]
   refine hK8 _ _ ?_
   conv => enter [5]; simp only [sl1, sl0, sz0, sz1]
   refine AW.cond rfl (fun hc14 => ?_) (fun hc14 => ?_)
   ·skip
    have hi1 : i < a.length := by simpa using hc14
    have hi2 : i < b.length := by omega
    have hx : (a.map natA)[i]? = some (natA a[i]) := by simp [hi1]
    have hy : (b.map natA)[i]? = some (natA b[i]) := by simp [hi2]
    refine AW.skip ?_
    refine hK7 _ _ ?_
    refine AW.seq_k fun K9 hK9 => ?_
    refine AW.block ?_
    refine AW.regdl mixed false [25] (by kernel_rfl) (by rfl) fun K10 hK10 => ?_
    simp only [go_sem, Nat.reduceAdd, Nat.reduceEqDiff, Nat.reduceLeDiff, at_row hx, at_row hy, natA]
    refine hK10 _ ?_
    conv => enter [5]; simp only [sl1, sl0, sz0, sz1]
    refine AW.cond rfl (fun hc25 => ?_) (fun hc25 => ?_)
    ·skip
     have hne : a ≠ b := fun e => by subst e; simp at hc25
     refine AW.regl false [4] (by rfl) fun K11 hK11 => ?_
     simp only [go_sem, Nat.reduceAdd, Nat.reduceEqDiff, Nat.reduceLeDiff]
     refine hK11 _ _ ?_
     conv => enter [5]; simp only [sl1, sl0, sz0, sz1]
     refine AW.ret ⟨.inr rfl, _, rfl, by simp, ?_⟩
     rw [decide_eq_false hne]
     exact .keep rfl
    ·skip
     have heq : a[i] = b[i] := by simp at hc25; omega
     refine AW.skip ?_
     refine hK9 _ _ ?_
     refine AW.lastl false [5] (by rfl) fun K hK => ?_
     simp only [go_sem, Nat.reduceAdd, Nat.reduceEqDiff, Nat.reduceLeDiff]
     refine hK _ _ fun env' hw => ?_
     simp only [setL_cons, setL_nil, List.set_cons_zero, List.set_cons_succ] at hw
     refine ⟨i + 1, by omega, ⟨by omega, by rw [List.take_succ_eq_append_getElem hi1, List.take_succ_eq_append_getElem hi2, hti, heq]⟩, ?_, rfl⟩
     refine hw.trans ?_
     simp [Wk, wrap_succ (show i < 2000 by omega) (by decide)]
   ·skip
    have hi1 : i = a.length := by
     have : ¬ i < a.length := by simpa using hc14
     omega
    refine AW.exit ?_
    refine hK5 _ _ ?_
    refine AW.regl false [4] (by rfl) fun K12 hK12 => ?_
    simp only [go_sem, Nat.reduceAdd, Nat.reduceEqDiff, Nat.reduceLeDiff]
    refine hK12 _ _ ?_
    conv => enter [5]; simp only [sl1, sl0, sz0, sz1]
    refine AW.ret ⟨.inr rfl, _, rfl, by simp, ?_⟩
    rw [decide_eq_true (show a = b by rw [hi1, List.take_length, List.take_of_length_le (by omega)] at hti; exact hti)]
    exact .keep rfl

set_option maxRecDepth 100000 in
set_option maxHeartbeats 1000000 in
theorem rsort_calls (m : List (List Bool)) (nl : Bool) (hn : m.length ≤ 1000) (hm : ∀ r ∈ m, r.length = m.length) : APure prog Γ 34 [rowAV 1 nl (m.map rowB)] (ordAV (ord (mat m) m.length)) := by
 refine APure.of func34 rfl fun σ => ?_
 simp only [ntmps34, List.length_cons, List.length_nil, Nat.reduceAdd, Nat.reduceSub, List.replicate_succ, List.replicate_zero, List.cons_append, List.nil_append]
 refine AW.regl false [2, 3] (by rfl) fun K1 hK1 => ?_
 simp only [go_sem, Nat.reduceAdd, Nat.reduceEqDiff, Nat.reduceLeDiff]
 refine hK1 _ _ ?_
 conv => enter [5]; simp only [sl1, sl0, sz0, sz1]
 refine AW.regl false [4] (by rfl) fun K2 hK2 => ?_
 simp only [go_sem, Nat.reduceAdd, Nat.reduceEqDiff, Nat.reduceLeDiff]
 refine hK2 _ _ ?_
 conv => enter [5]; simp only [sl1, sl0, sz0, sz1]
 refine AW.cap 1 ?_
 try simp only [List.append_assoc, List.cons_append, List.nil_append]
 refine AW.ownT 4 σ.length rfl ((app_get0 _ _).trans rfl) (by decide) ?_
 try simp only [List.set_cons_zero, List.set_cons_succ]
 refine AW.regl false [5] (by rfl) fun K3 hK3 => ?_
 simp only [go_sem, Nat.reduceAdd, Nat.reduceEqDiff, Nat.reduceLeDiff, mkB (show m.length ≤ 2000 by omega)]
 refine hK3 _ _ ?_
 conv => enter [5]; simp only [sl1, sl0, sz0, sz1]
 refine AW.seq_k fun K4 hK4 => ?_
 refine AW.block ?_
 refine AW.loop_wk (α := List Bool × List Nat) (fun z => [(rowAV 1 nl (m.map rowB)), .any, .any, .any, (.slo true 1 (z.2.map natA) σ.length), (.osl (σ.length + 1) 0 m.length 1), .any, .any, .any, .any, .any, .any, .any, .any, .any, .any, .any, .any, .any, .any, .any, .any, .any, .any, .any, .any, .any, .any, .any, .any, .any, .any, .any, .any, .any, .any, .any, .any, .any, .any, .any, .any, .any, .any, .any, .any, .any, .any, .any, .any, .any, .any, .any, .any, .any, .any, .any, .any, .any, .any, .any, .any, .any, .any, .any]) (fun z => σ ++ [.cap z.2.length 1, .cells (bools z.1)]) (fun z => m.length - z.2.length) (fun z => z.1.length = m.length ∧ z.2.length ≤ m.length ∧ ord (mat m) m.length = ordGo (mat m) m.length (m.length - z.2.length) z.1 z.2) (List.replicate m.length false, []) ?_ ?_
 ·exact ⟨⟨by simp, Nat.zero_le _, rfl⟩, by simp [Wk], rfl⟩
 ·rintro ⟨d, out⟩ ⟨hd, ho, hord⟩
  simp only at hd ho hord
  refine AW.seq_k fun K5 hK5 => ?_
  refine AW.regl false [17] (by rfl) fun K6 hK6 => ?_
  simp only [go_sem, Nat.reduceAdd, Nat.reduceEqDiff, Nat.reduceLeDiff]
  refine hK6 _ _ ?_
  conv => enter [5]; simp only [sl1, sl0, sz0, sz1]
  refine AW.cond rfl (fun hc17 => ?_) (fun hc17 => ?_)
  ·skip
   have hlt : out.length < m.length := by simpa using hc17
   refine AW.skip ?_
   refine hK5 _ _ ?_
   refine AW.block ?_
   refine AW.regl false [6] (by rfl) fun K7 hK7 => ?_
   simp only [go_sem, Nat.reduceAdd, Nat.reduceEqDiff, Nat.reduceLeDiff]
   refine hK7 _ _ ?_
   conv => enter [5]; simp only [sl1, sl0, sz0, sz1]
   refine AW.seq_k fun K8 hK8 => ?_
   refine AW.regl false [7] (by rfl) fun K9 hK9 => ?_
   simp only [go_sem, Nat.reduceAdd, Nat.reduceEqDiff, Nat.reduceLeDiff, wrapI (show -1000000 ≤ ((m.length : Nat) : Int) - 1 by omega) (show ((m.length : Nat) : Int) - 1 ≤ 1000000 by omega)]
   refine hK9 _ _ ?_
   conv => enter [5]; simp only [sl1, sl0, sz0, sz1]
   refine AW.block ?_
   refine AW.loop_wk (α := Nat) (fun j => [(rowAV 1 nl (m.map rowB)), .any, .any, .any, (.slo true 1 (out.map natA) σ.length), (.osl (σ.length + 1) 0 m.length 1), (.val (.int .i64 (nxA (mat m) m.length d j))), (.val (.int .i64 (((j : Nat) : Int) - 1))), .any, .any, .any, .any, .any, .any, .any, .any, .any, .any, .any, .any, .any, .any, .any, .any, .any, .any, .any, .any, .any, .any, .any, .any, .any, .any, .any, .any, .any, .any, .any, .any, .any, .any, .any, .any, .any, .any, .any, .any, .any, .any, .any, .any, .any, .any, .any, .any, .any, .any, .any, .any, .any, .any, .any, .any, .any]) (fun j => σ ++ [.cap out.length 1, .cells (bools d)]) (fun j => j) (fun j => j ≤ m.length) m.length ?_ ?_
   ·exact ⟨Nat.le_refl _, by simp [Wk, nxA_end], rfl⟩
   ·intro j hj
    refine AW.seq_k fun K10 hK10 => ?_
    refine AW.regl false [22] (by rfl) fun K11 hK11 => ?_
    simp only [go_sem, Nat.reduceAdd, Nat.reduceEqDiff, Nat.reduceLeDiff]
    refine hK11 _ _ ?_
    conv => enter [5]; simp only [sl1, sl0, sz0, sz1]
    refine AW.cond rfl (fun hc22 => ?_) (fun hc22 => ?_)
    ·skip
     obtain ⟨j0, rfl⟩ : ∃ j0, j = j0 + 1 := ⟨j - 1, by simp at hc22; omega⟩
     have hjj : (((j0 + 1 : Nat) : Int) - 1) = ((j0 : Nat) : Int) := by omega
     have hj0 : j0 < m.length := by omega
     have hat0 := at_osl (o := σ.length + 1) (k := .i64) hj0
     have hdr0 := dr_bool (d := d) (i := j0) (by omega)
     have hwj : IntKind.wrap .i64 (((j0 : Nat) : Int) - 1) = ((j0 : Nat) : Int) - 1 := wrapI (by omega) (by omega)
     refine AW.skip ?_
     refine hK10 _ _ ?_
     refine AW.seq_k fun K12 hK12 => ?_
     refine AW.block ?_
     refine AW.regl false [8] (by rfl) fun K13 hK13 => ?_
     simp only [go_sem, Nat.reduceAdd, Nat.reduceEqDiff, Nat.reduceLeDiff, hjj, hat0, hdr0]
     refine hK13 _ _ ?_
     conv => enter [5]; simp only [sl1, sl0, sz0, sz1]
     refine AW.seq_k fun K14 hK14 => ?_
     refine AW.regl false [9] (by rfl) fun K15 hK15 => ?_
     simp only [go_sem, Nat.reduceAdd, Nat.reduceEqDiff, Nat.reduceLeDiff]
     refine hK15 _ _ ?_
     conv => enter [5]; simp only [sl1, sl0, sz0, sz1]
     refine AW.block ?_
     refine AW.loop_wk (α := Nat) (fun k => [(rowAV 1 nl (m.map rowB)), .any, .any, .any, (.slo true 1 (out.map natA) σ.length), (.osl (σ.length + 1) 0 m.length 1), (i64 (nxA (mat m) m.length d (j0 + 1))), (i64 (((j0 + 1 : Nat) : Int) - 1)), (.val (.bool (!d.getD j0 false && (List.range k).all fun q => d.getD q false || !mat m j0 q))), (.val (.int .i64 ((k : Nat) : Int))), .any, .any, .any, .any, .any, .any, .any, .any, .any, .any, .any, .any, .any, .any, .any, .any, .any, .any, .any, .any, .any, .any, .any, .any, .any, .any, .any, .any, .any, .any, .any, .any, .any, .any, .any, .any, .any, .any, .any, .any, .any, .any, .any, .any, .any, .any, .any, .any, .any, .any, .any, .any, .any, .any, .any]) (fun k => σ ++ [.cap out.length 1, .cells (bools d)]) (fun k => m.length - k) (fun k => k ≤ m.length) 0 ?_ ?_
     ·exact ⟨Nat.zero_le _, by simp [Wk], rfl⟩
     ·intro k hk
      refine AW.seq_k fun K16 hK16 => ?_
      refine AW.regl false [33] (by rfl) fun K17 hK17 => ?_
      simp only [go_sem, Nat.reduceAdd, Nat.reduceEqDiff, Nat.reduceLeDiff]
      refine hK17 _ _ ?_
      conv => enter [5]; simp only [sl1, sl0, sz0, sz1]
      refine AW.cond rfl (fun hc33 => ?_) (fun hc33 => ?_)
      ·skip
       have hk1 : k < m.length := by simpa using hc33
       obtain ⟨r, hr⟩ : ∃ z, z = m[j0] := ⟨_, rfl⟩
       have hrl : r.length = m.length := hm r (by rw [hr]; exact List.getElem_mem hj0)
       have hmat : mat m j0 k = r.getD k false := by simp [mat, List.getD_eq_getElem?_getD, hj0, hr]
       have hx : (m.map rowB)[j0]? = some (rowB r) := by rw [hr]; simp [hj0]
       have hy : (bools r)[k]? = some (bool (mat m j0 k)) := by rw [hmat, bools, List.getElem?_map, List.getElem?_eq_getElem (by omega), List.getD_eq_getElem?_getD, List.getElem?_eq_getElem (by omega)]; rfl
       have hatk := at_osl (o := σ.length + 1) (k := .i64) hk1
       have hdrk := dr_bool (d := d) (i := k) (by omega)
       refine AW.skip ?_
       refine hK16 _ _ ?_
       refine AW.seq_k fun K18 hK18 => ?_
       refine AW.block ?_
       refine AW.lasttf false 8 (.val (.bool ((!d.getD j0 false && (List.range k).all fun q => d.getD q false || !mat m j0 q) && (d.getD k false || !(mat m j0 k))))) (by rfl) ?_ (fun env' hw => ?_)
       ·skip
        cases h8 : ((!d.getD j0 false && (List.range k).all fun q => d.getD q false || !mat m j0 q))
        ·skip
         simp only [go_sem, Nat.reduceAdd, Nat.reduceEqDiff, Nat.reduceLeDiff, hjj, at_row hx, at_row hy, rowB, hatk, hdrk, h8]
         try simp [upd_at, h8, List.length_map, len_row, one_row, List.drop_zero, hjj, at_row hx, at_row hy, rowB, hatk, hdrk]
        ·skip
         cases h41 : (d.getD k false)
         ·skip
          simp only [go_sem, Nat.reduceAdd, Nat.reduceEqDiff, Nat.reduceLeDiff, hjj, at_row hx, at_row hy, rowB, hatk, hdrk, h8, h41]
          try simp [upd_at, h8, h41, List.length_map, len_row, one_row, List.drop_zero, hjj, at_row hx, at_row hy, rowB, hatk, hdrk]
         ·skip
          simp only [go_sem, Nat.reduceAdd, Nat.reduceEqDiff, Nat.reduceLeDiff, hjj, at_row hx, at_row hy, rowB, hatk, hdrk, h8, h41]
          try simp [upd_at, h8, h41, List.length_map, len_row, one_row, List.drop_zero, hjj, at_row hx, at_row hy, rowB, hatk, hdrk]
       simp only [List.set_cons_zero, List.set_cons_succ] at hw
       refine hK18 _ _ (AW.weaken hw ?_); clear hw
       refine AW.lastl false [9] (by rfl) fun K hK => ?_
       simp only [go_sem, Nat.reduceAdd, Nat.reduceEqDiff, Nat.reduceLeDiff]
       refine hK _ _ fun env' hw => ?_
       simp only [setL_cons, setL_nil, List.set_cons_zero, List.set_cons_succ] at hw
       refine ⟨k + 1, by omega, by omega, ?_, rfl⟩
       refine hw.trans ?_
       simp [Wk, List.range_succ, List.all_append, Bool.and_assoc, wrap_succ (show k < 2000 by omega) (by decide)]
      ·skip
       have hk1 : k = m.length := by
        have : ¬ k < m.length := by simpa using hc33
        omega
       subst hk1
       refine AW.exit ?_
       refine hK14 _ _ ?_
       refine AW.regl false [53] (by rfl) fun K19 hK19 => ?_
       simp only [go_sem, Nat.reduceAdd, Nat.reduceEqDiff, Nat.reduceLeDiff]
       refine hK19 _ _ ?_
       conv => enter [5]; simp only [sl1, sl0, sz0, sz1]
       refine AW.cond rfl (fun hc53 => ?_) (fun hc53 => ?_)
       ·skip
        have hrd : rdy (mat m) m.length d j0 = true := hc53
        refine AW.lastl false [6] (by rfl) fun K hK => ?_
        simp only [go_sem, Nat.reduceAdd, Nat.reduceEqDiff, Nat.reduceLeDiff]
        refine hK _ _ fun env' hw => ?_
        simp only [setL_cons, setL_nil, List.set_cons_zero, List.set_cons_succ] at hw
        refine hK12 _ _ (AW.weaken hw ?_); clear hw
        refine AW.lastl false [7] (by rfl) fun K hK => ?_
        simp only [go_sem, Nat.reduceAdd, Nat.reduceEqDiff, Nat.reduceLeDiff, hjj, hwj]
        refine hK _ _ fun env' hw => ?_
        simp only [setL_cons, setL_nil, List.set_cons_zero, List.set_cons_succ] at hw
        refine ⟨j0, by omega, by omega, ?_, rfl⟩
        refine hw.trans ?_
        simp [Wk, nxA_step (R := mat m) (d := d) (show j0 < m.length by omega), hrd, hwj]
       ·skip
        have hrd : rdy (mat m) m.length d j0 = false := hc53
        refine AW.skip ?_
        refine hK12 _ _ ?_
        refine AW.lastl false [7] (by rfl) fun K hK => ?_
        simp only [go_sem, Nat.reduceAdd, Nat.reduceEqDiff, Nat.reduceLeDiff, hjj, hwj]
        refine hK _ _ fun env' hw => ?_
        simp only [setL_cons, setL_nil, List.set_cons_zero, List.set_cons_succ] at hw
        refine ⟨j0, by omega, by omega, ?_, rfl⟩
        refine hw.trans ?_
        simp [Wk, nxA_step (R := mat m) (d := d) (show j0 < m.length by omega), hrd, hwj]
    ·skip
     have hj0 : j = 0 := by simp at hc22; omega
     subst hj0
     refine AW.exit ?_
     refine hK8 _ _ ?_
     refine AW.seq_k fun K20 hK20 => ?_
     refine AW.regl false [56] (by rfl) fun K21 hK21 => ?_
     simp only [go_sem, Nat.reduceAdd, Nat.reduceEqDiff, Nat.reduceLeDiff]
     refine hK21 _ _ ?_
     conv => enter [5]; simp only [sl1, sl0, sz0, sz1]
     refine AW.cond rfl (fun hc56 => ?_) (fun hc56 => ?_)
     ·skip
      have hnx : nxt (mat m) m.length d = none := by
       rw [nxA_zero] at hc56
       cases h : nxt (mat m) m.length d with
       | none => rfl
       | some i => rw [h] at hc56; simp at hc56; omega
      refine AW.regl false [2, 3] (by rfl) fun K22 hK22 => ?_
      simp only [go_sem, Nat.reduceAdd, Nat.reduceEqDiff, Nat.reduceLeDiff]
      refine hK22 _ _ ?_
      conv => enter [5]; simp only [sl1, sl0, sz0, sz1]
      refine AW.ret ⟨.inr rfl, _, rfl, by simp, ?_⟩
      rw [hord, show m.length - out.length = (m.length - out.length - 1) + 1 by omega, ordGo, hnx]
      exact .keep rfl
     ·skip
      obtain ⟨i, hnx⟩ : ∃ i, nxt (mat m) m.length d = some i := by
       rw [nxA_zero] at hc56
       cases h : nxt (mat m) m.length d with
       | none => rw [h] at hc56; simp at hc56
       | some i => exact ⟨i, rfl⟩
      have hni : nxA (mat m) m.length d 0 = ((i : Nat) : Int) := by rw [nxA_zero, hnx]
      have hil := (nxt_lt hnx).1
      have hati := at_osl (o := σ.length + 1) (k := .i64) hil
      have hsz : i + 1 ≤ (bools d).length := by simp [bools]; omega
      have hspi := spl_bool (d := d) (i := i) (by omega) true
      refine AW.skip ?_
      refine hK20 _ _ ?_
      refine AW.regl false [] (by rfl) fun K23 hK23 => ?_
      simp only [go_sem, Nat.reduceAdd, Nat.reduceEqDiff, Nat.reduceLeDiff, hni, hati, hspi, if_pos hsz]
      refine hK23 _ _ ?_
      conv => enter [5]; simp only [sl1, sl0, sz0, sz1, upd_none, upd_at]
      refine AW.lastl false [4] (by rfl) fun K hK => ?_
      simp only [go_sem, Nat.reduceAdd, Nat.reduceEqDiff, Nat.reduceLeDiff, hni, ap_nat (show out.length ≤ 2000 by omega)]
      refine hK _ _ fun env' hw => ?_
      simp only [setL_cons, setL_nil, List.set_cons_zero, List.set_cons_succ] at hw
      refine ⟨(d.set i true, out ++ [i]), by simp; omega, ⟨by simpa using hd, by simp; omega, ?_⟩, ?_, by simp⟩
      ·rw [hord, show m.length - out.length = (m.length - (out ++ [i]).length) + 1 by simp; omega, ordGo, hnx]
      ·refine hw.trans ?_
       simp [Wk]
  ·skip
   have hlt : out.length = m.length := by
    have : ¬ out.length < m.length := by simpa using hc17
    omega
   refine AW.exit ?_
   refine hK4 _ _ ?_
   refine AW.regl false [2, 3] (by rfl) fun K24 hK24 => ?_
   simp only [go_sem, Nat.reduceAdd, Nat.reduceEqDiff, Nat.reduceLeDiff]
   refine hK24 _ _ ?_
   conv => enter [5]; simp only [sl1, sl0, sz0, sz1]
   refine AW.ret ⟨.inr rfl, _, rfl, by simp, ?_⟩
   rw [hord, hlt, Nat.sub_self]
   exact .tup (.cons (frz_row (fun _ _ => rfl) (by omega) out) (.cons (.keep rfl) .nil))

set_option maxRecDepth 100000 in
theorem rfind_calls (f : FileM) (s : ByteArray) (hf : f.ds.length ≤ 2000) : APure prog Γ 19 [f.enc, .val (.string s)] (.val (.int .i64 (numA (findD f.ds s)))) := by
 refine APure.of func19 rfl fun σ => ?_
 simp only [ntmps19, List.length_cons, List.length_nil, Nat.reduceAdd, Nat.reduceSub, List.replicate_succ, List.replicate_zero, List.cons_append, List.nil_append]
 refine AW.regl false [2, 4] (by rfl) fun K1 hK1 => ?_
 simp only [go_sem, Nat.reduceAdd, Nat.reduceEqDiff, Nat.reduceLeDiff, dgm_get, dgm_all, file_all]
 refine hK1 _ _ ?_
 conv => enter [5]; simp only [sl1, sl0, sz0, sz1]
 refine AW.seq_k fun K2 hK2 => ?_
 refine AW.regl false [5] (by rfl) fun K3 hK3 => ?_
 simp only [go_sem, Nat.reduceAdd, Nat.reduceEqDiff, Nat.reduceLeDiff, dgm_get, dgm_all, file_all]
 refine hK3 _ _ ?_
 conv => enter [5]; simp only [sl1, sl0, sz0, sz1]
 refine AW.block ?_
 refine AW.loop_wk (α := Nat) (fun i => [.any, (.val (.string s)), (.ref σ.length 0), .any, .any, (.val (.int .i64 ((i : Nat) : Int))), .any, .any, .any, .any, .any, .any, .any, .any, .any, .any, .any, .any, .any, .any, .any, .any]) (fun i => σ ++ [.cells (FileM.enc f).cells]) (fun i => f.ds.length - i) (fun i => i ≤ f.ds.length ∧ findD (f.ds.take i) s = none) 0 ?_ ?_
 ·exact ⟨⟨Nat.zero_le _, rfl⟩, by simp [Wk], rfl⟩
 ·rintro i ⟨hi, hfn⟩
  refine AW.seq_k fun K4 hK4 => ?_
  refine AW.regl false [10] (by rfl) fun K5 hK5 => ?_
  simp only [go_sem, Nat.reduceAdd, Nat.reduceEqDiff, Nat.reduceLeDiff, dgm_get, dgm_all, file_all, FileM.enc]
  refine hK5 _ _ ?_
  conv => enter [5]; simp only [sl1, sl0, sz0, sz1]
  refine AW.cond rfl (fun hc10 => ?_) (fun hc10 => ?_)
  ·skip
   have hi1 : i < f.ds.length := by simpa using hc10
   obtain ⟨d, hd⟩ : ∃ z, z = f.ds[i] := ⟨_, rfl⟩
   have hx : (f.ds.map Dgm.enc)[i]? = some d.enc := by rw [hd]; simp [hi1]
   refine AW.skip ?_
   refine hK4 _ _ ?_
   refine AW.seq_k fun K6 hK6 => ?_
   refine AW.block ?_
   refine AW.regl false [20] (by rfl) fun K7 hK7 => ?_
   simp only [go_sem, Nat.reduceAdd, Nat.reduceEqDiff, Nat.reduceLeDiff, dgm_get, dgm_all, file_all, FileM.enc, at_row hx, dgm_cells, Dgm.enc, ba_beqL]
   refine hK7 _ _ ?_
   conv => enter [5]; simp only [sl1, sl0, sz0, sz1]
   refine AW.cond rfl (fun hc20 => ?_) (fun hc20 => ?_)
   ·skip
    have he : d.name = s := by simpa [ba_beqL] using hc20
    refine AW.regl false [4] (by rfl) fun K8 hK8 => ?_
    simp only [go_sem, Nat.reduceAdd, Nat.reduceEqDiff, Nat.reduceLeDiff, dgm_get, dgm_all, file_all]
    refine hK8 _ _ ?_
    conv => enter [5]; simp only [sl1, sl0, sz0, sz1]
    refine AW.ret ⟨.inr rfl, _, rfl, by simp, ?_⟩
    rw [findD_at hi1 hfn (by rw [← hd]; exact he)]
    exact .keep rfl
   ·skip
    have hne : ¬ d.name = s := by simpa [ba_beqL] using hc20
    refine AW.skip ?_
    refine hK6 _ _ ?_
    refine AW.lastl false [5] (by rfl) fun K hK => ?_
    simp only [go_sem, Nat.reduceAdd, Nat.reduceEqDiff, Nat.reduceLeDiff, dgm_get, dgm_all, file_all]
    refine hK _ _ fun env' hw => ?_
    simp only [setL_cons, setL_nil, List.set_cons_zero, List.set_cons_succ] at hw
    refine ⟨i + 1, by omega, ⟨by omega, findD_snoc hi1 hfn (by rw [← hd]; exact hne)⟩, ?_, rfl⟩
    refine hw.trans ?_
    simp [Wk, wrap_succ (show i < 2000 by omega) (by decide)]
  ·skip
   have hi1 : i = f.ds.length := by
    have : ¬ i < f.ds.length := by simpa using hc10
    omega
   rw [hi1, List.take_length] at hfn
   refine AW.exit ?_
   refine hK2 _ _ ?_
   refine AW.regl false [4] (by rfl) fun K9 hK9 => ?_
   simp only [go_sem, Nat.reduceAdd, Nat.reduceEqDiff, Nat.reduceLeDiff, dgm_get, dgm_all, file_all]
   refine hK9 _ _ ?_
   conv => enter [5]; simp only [sl1, sl0, sz0, sz1]
   refine AW.ret ⟨.inr rfl, _, rfl, by simp, ?_⟩
   rw [hfn]
   exact .keep rfl
end Fl
end Go.Proofs.Tryd
