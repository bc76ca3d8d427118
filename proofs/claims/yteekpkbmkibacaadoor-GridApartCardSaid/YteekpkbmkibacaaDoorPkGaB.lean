import Derived.Test.YteekpkbmkibacaaDoorPkGaA
import Derived.Test.YteekpkbmkibacaaDoorEvSlNil
import Derived.Test.YteekpkbmkibacaaDoorDiagP
/-! Places. -/
namespace Go.Proofs.Ev
set_option linter.unusedSimpArgs false
set_option linter.unusedVariables false
open Go
variable {P : Program}
theorem aAppend_osl {tS tX : TypeId} {sz b : Nat} (h : tApp P tS = some (sz, b)) {σ : Sto} {o len n : Nat} {cs ds : List AV} {x : AV} (ho : σ[o]? = some (.cells cs)) (hl : cs.length = len * sz) (hs : aSrc P σ tX sz x = some (n, ds)) (hf : fits (len + n) b = true) :
    aAppend P σ tS tX (.osl o 0 len sz) x = some (.osl σ.length 0 (len + n) sz, σ.set o .dead ++ [.cells (cs ++ ds)]) := by
  unfold tApp at h
  split at h <;> try (simp at h; done)
  rename_i e h1
  split at h <;> try (simp at h; done)
  rename_i i h2
  split at h <;> try (simp at h; done)
  rename_i z h3
  split at h <;> try (simp at h; done)
  rename_i h4
  simp only [Option.some.injEq, Prod.mk.injEq] at h
  obtain ⟨rfl, rfl⟩ := h
  unfold aAppend
  simp only [h1, h2, h3, h4, hs, ho]
  simp [hl, hf]
theorem aBuild_zero {T : TypeId} {sz : Nat} (h : tSize P T = some sz) (hs : 0 < sz) (σ : Sto) : aRow P true σ T 0 [] = some (.osl σ.length 0 0 sz, σ ++ [.cells []]) := by
  obtain ⟨e, i, hT, hie, rfl⟩ := of_tSize h
  simp [aRow, aBuildSlice, hT, hie, aFill, aZeros, hs]
theorem aSrc_sl {tX : TypeId} {e : TypeId} (h : P.underlying tX = some (.slice e)) (σ : Sto) (sz : Nat) (es : List AV) : aSrc P σ tX sz (.sl sz es) = some (es.length, es.flatMap AV.cells) := by
  unfold aSrc
  simp [h]
/-- A clone, live. -/
theorem app_clone {T : TypeId} {sz b : Nat} {e : TypeId} (h : tApp P T = some (sz, b)) (hT : P.underlying T = some (.slice e)) (σ : Sto) (es : List AV) (hf : fits es.length b = true) :
    aApp P true (σ ++ [.cells []]) T T (.osl σ.length 0 0 sz) (.sl sz es) = some (.osl (σ.length + 1) 0 es.length sz, σ ++ [.dead, .cells (es.flatMap AV.cells)]) := by
  have := aAppend_osl (tX := T) h (σ := σ ++ [.cells []]) (o := σ.length) (len := 0) (app_get0 σ _) (by simp) (aSrc_sl hT _ sz es) (by simpa using hf)
  unfold aApp
  simpa using this
end Go.Proofs.Ev
namespace Go.Proofs.Tryd
open Go Go.Proofs.Ev
namespace Gr
variable {Γ : List (Nat × List AV)}
theorem fits_small {n b : Nat} (hn : n ≤ 2000) (hb : b ≤ 4096) : fits n b = true := fits_of (by omega) hb
set_option maxRecDepth 100000 in
theorem cloneD_nil : APure prog Γ 68 [.nilsl] .nilsl := by
  refine APure.of func68 rfl fun σ => ?_
  simp only [ntmps68, List.length_cons, List.length_nil, Nat.reduceAdd, Nat.reduceSub, List.replicate_succ, List.replicate_zero, List.cons_append, List.nil_append]
  refine AW.regl false [2] (by rfl) fun K1 hK1 => ?_ -- region 0
  simp only [go_sem, Nat.reduceAdd, Nat.reduceEqDiff, Nat.reduceLeDiff, true_and]
  refine hK1 _ _ ?_; try clear hK1 K1
  conv => enter [5]; simp only [setL_cons, setL_nil, List.set_cons_zero, List.set_cons_succ]
  refine AW.seq_k fun K2 hK2 => ?_
  refine AW.slnil underlying35 rfl NilIs.nil rfl ?_ -- region 1
  conv => enter [5]; simp only [List.set_cons_zero, List.set_cons_succ]
  refine AW.cond rfl (fun hc4 => ?_) (fun hc4 => ?_)
  · skip
    refine AW.regl false [2] (by rfl) fun K4 hK4 => ?_ -- region 2
    simp only [go_sem, Nat.reduceAdd, Nat.reduceEqDiff, Nat.reduceLeDiff, true_and]
    refine hK4 _ _ ?_; try clear hK4 K4
    conv => enter [5]; simp only [setL_cons, setL_nil, List.set_cons_zero, List.set_cons_succ]
    refine AW.ret ⟨.inr rfl, _, rfl, by simp, ?_⟩ -- return 1
    exact .keep rfl
  · skip
    exact absurd hc4 (by simp)

set_option maxRecDepth 100000 in
theorem cloneD_sl (σ : Sto) (es : List AV) (hn : es.length ≤ 2000) : ACalls prog Γ 68 [.sl 4 es] σ (fun v σ' => v = .osl (σ.length + 1) 0 es.length 4 ∧ σ' = σ ++ [.dead, .cells (es.flatMap AV.cells)]) := by
  refine ACalls.of func68 rfl ?_
  simp only [ntmps68, List.length_cons, List.length_nil, Nat.reduceAdd, Nat.reduceSub, List.replicate_succ, List.replicate_zero, List.cons_append, List.nil_append]
  have hz := fun σ => aBuild_zero (P := prog) (T := 35) (sz := 4) (by kernel_rfl) (by decide) σ
  have hap := fun σ => app_clone (P := prog) (T := 35) (sz := 4) (b := 88) (by kernel_rfl) underlying35 σ es (fits_small hn (by decide))
  refine AW.regl false [2] (by rfl) fun K1 hK1 => ?_ -- region 0
  simp only [go_sem, Nat.reduceAdd, Nat.reduceEqDiff, Nat.reduceLeDiff, true_and]
  refine hK1 _ _ ?_; try clear hK1 K1
  conv => enter [5]; simp only [setL_cons, setL_nil, List.set_cons_zero, List.set_cons_succ]
  refine AW.seq_k fun K2 hK2 => ?_
  refine AW.slnil underlying35 rfl (NilIs.sl 4 es) rfl ?_ -- region 1
  conv => enter [5]; simp only [List.set_cons_zero, List.set_cons_succ]
  refine AW.cond rfl (fun hc4 => ?_) (fun hc4 => ?_)
  · skip
    exact absurd hc4 (by simp)
  · skip
    refine AW.skip ?_
    refine hK2 _ _ ?_; try clear hK2 K2
    refine AW.regl true [2] (by rfl) fun K4 hK4 => ?_ -- region 3
    simp only [go_sem, Nat.reduceAdd, Nat.reduceEqDiff, Nat.reduceLeDiff, true_and, hz, hap]
    refine hK4 _ _ ?_; try clear hK4 K4
    conv => enter [5]; simp only [setL_cons, setL_nil, List.set_cons_zero, List.set_cons_succ]
    exact AW.ret ⟨.inr rfl, _, rfl, rfl, rfl⟩

set_option maxRecDepth 100000 in
theorem cloneB_nil : APure prog Γ 70 [.nilsl] .nilsl := by
  refine APure.of func70 rfl fun σ => ?_
  simp only [ntmps70, List.length_cons, List.length_nil, Nat.reduceAdd, Nat.reduceSub, List.replicate_succ, List.replicate_zero, List.cons_append, List.nil_append]
  refine AW.regl false [2] (by rfl) fun K1 hK1 => ?_ -- region 0
  simp only [go_sem, Nat.reduceAdd, Nat.reduceEqDiff, Nat.reduceLeDiff, true_and]
  refine hK1 _ _ ?_; try clear hK1 K1
  conv => enter [5]; simp only [setL_cons, setL_nil, List.set_cons_zero, List.set_cons_succ]
  refine AW.seq_k fun K2 hK2 => ?_
  refine AW.slnil underlying32 rfl NilIs.nil rfl ?_ -- region 1
  conv => enter [5]; simp only [List.set_cons_zero, List.set_cons_succ]
  refine AW.cond rfl (fun hc4 => ?_) (fun hc4 => ?_)
  · skip
    refine AW.regl false [2] (by rfl) fun K4 hK4 => ?_ -- region 2
    simp only [go_sem, Nat.reduceAdd, Nat.reduceEqDiff, Nat.reduceLeDiff, true_and]
    refine hK4 _ _ ?_; try clear hK4 K4
    conv => enter [5]; simp only [setL_cons, setL_nil, List.set_cons_zero, List.set_cons_succ]
    refine AW.ret ⟨.inr rfl, _, rfl, by simp, ?_⟩ -- return 1
    exact .keep rfl
  · skip
    exact absurd hc4 (by simp)

set_option maxRecDepth 100000 in
theorem cloneB_sl (σ : Sto) (es : List AV) (hn : es.length ≤ 2000) : ACalls prog Γ 70 [.sl 7 es] σ (fun v σ' => v = .osl (σ.length + 1) 0 es.length 7 ∧ σ' = σ ++ [.dead, .cells (es.flatMap AV.cells)]) := by
  refine ACalls.of func70 rfl ?_
  simp only [ntmps70, List.length_cons, List.length_nil, Nat.reduceAdd, Nat.reduceSub, List.replicate_succ, List.replicate_zero, List.cons_append, List.nil_append]
  have hz := fun σ => aBuild_zero (P := prog) (T := 32) (sz := 7) (by kernel_rfl) (by decide) σ
  have hap := fun σ => app_clone (P := prog) (T := 32) (sz := 7) (b := 64) (by kernel_rfl) underlying32 σ es (fits_small hn (by decide))
  refine AW.regl false [2] (by rfl) fun K1 hK1 => ?_ -- region 0
  simp only [go_sem, Nat.reduceAdd, Nat.reduceEqDiff, Nat.reduceLeDiff, true_and]
  refine hK1 _ _ ?_; try clear hK1 K1
  conv => enter [5]; simp only [setL_cons, setL_nil, List.set_cons_zero, List.set_cons_succ]
  refine AW.seq_k fun K2 hK2 => ?_
  refine AW.slnil underlying32 rfl (NilIs.sl 7 es) rfl ?_ -- region 1
  conv => enter [5]; simp only [List.set_cons_zero, List.set_cons_succ]
  refine AW.cond rfl (fun hc4 => ?_) (fun hc4 => ?_)
  · skip
    exact absurd hc4 (by simp)
  · skip
    refine AW.skip ?_
    refine hK2 _ _ ?_; try clear hK2 K2
    refine AW.regl true [2] (by rfl) fun K4 hK4 => ?_ -- region 3
    simp only [go_sem, Nat.reduceAdd, Nat.reduceEqDiff, Nat.reduceLeDiff, true_and, hz, hap]
    refine hK4 _ _ ?_; try clear hK4 K4
    conv => enter [5]; simp only [setL_cons, setL_nil, List.set_cons_zero, List.set_cons_succ]
    exact AW.ret ⟨.inr rfl, _, rfl, rfl, rfl⟩
end Gr
end Go.Proofs.Tryd
/-! Places: what is written into the rows. -/
namespace Go.Proofs.Tryd
set_option linter.unusedSimpArgs false
set_option linter.unusedVariables false
open Go Go.Proofs.Ev
namespace Gr
variable {Γ : List (Nat × List AV)}
theorem wrap_i32 {x : Int} (h1 : 0 ≤ x) (h2 : x < 2147483648) : IntKind.wrap .i32 x = x := by
  unfold IntKind.wrap
  simp [IntKind.min, IntKind.max, IntKind.bits, IntKind.signed]
  omega
/-- A row of blocks, cell by cell. -/
def flat (l : List Blk) : List AV := (l.map Blk.enc).flatMap AV.cells
theorem blk_cells (b : Blk) : b.enc.cells = [i64 b.kind, i64 b.op, i64 b.sub, i64 b.n, .val (.int .i32 b.x), .val (.int .i32 b.y), rowAV 2 b.nl (b.src.map Src.enc)] := rfl
theorem flat_cons (b : Blk) (l : List Blk) : flat (b :: l) = b.enc.cells ++ flat l := by simp [flat]
theorem flat_len (l : List Blk) : (flat l).length = l.length * 7 := by
  induction l with
  | nil => rfl
  | cons b l ih => rw [flat_cons, List.length_append, ih, blk_cells, List.length_cons]; simp; omega
def setX (b : Blk) (x : Int) : Blk := { b with x := x }
def setY (b : Blk) (y : Int) : Blk := { b with y := y }
theorem splice_app (a l : List AV) (i : Nat) (v : AV) : aSplice (a ++ l) (a.length + i) [v] = a ++ aSplice l i [v] := by
  simp only [aSplice, List.length_singleton]
  rw [List.take_append, List.drop_append]
  simp only [List.take_of_length_le (show a.length ≤ a.length + i by omega), List.drop_of_length_le (show a.length ≤ a.length + i + 1 by omega), Nat.add_sub_cancel_left, show a.length + i + 1 - a.length = i + 1 by omega, List.append_assoc, List.nil_append]
theorem splice_head (b : Blk) (l : List Blk) (x : Int) : aSplice (flat (b :: l)) 4 [.val (.int .i32 x)] = flat (setX b x :: l) ∧ aSplice (flat (b :: l)) 5 [.val (.int .i32 x)] = flat (setY b x :: l) := by
  rw [flat_cons, flat_cons, flat_cons, blk_cells, blk_cells, blk_cells]
  exact ⟨rfl, rfl⟩
theorem splice_at (x : Int) : ∀ (l : List Blk) (k : Nat) (h : k < l.length), aSplice (flat l) (k * 7 + 4) [.val (.int .i32 x)] = flat (l.set k (setX l[k] x)) ∧ aSplice (flat l) (k * 7 + 5) [.val (.int .i32 x)] = flat (l.set k (setY l[k] x))
  | b :: l, 0, _ => by simpa using splice_head b l x
  | b :: l, k + 1, h => by
    obtain ⟨h1, h2⟩ := splice_at x l k (by simpa using h)
    have hb : b.enc.cells.length = 7 := rfl
    rw [show (k + 1) * 7 + 4 = b.enc.cells.length + (k * 7 + 4) by rw [hb]; omega, show (k + 1) * 7 + 5 = b.enc.cells.length + (k * 7 + 5) by rw [hb]; omega]
    simp only [List.set_cons_succ, List.getElem_cons_succ, flat_cons, splice_app, h1, h2, and_self]
/-- How many entries of a map of columns. -/
def mp (cs : List Nat) : List Nat × List Nat := cs.foldl (fun m c => insI m.1 m.2 c) ([], [])
theorem mp_snoc (cs : List Nat) (c : Nat) : mp (cs ++ [c]) = insI (mp cs).1 (mp cs).2 c := by simp [mp]
theorem mp_len (cs : List Nat) : (mp cs).1.length = (mp cs).2.length := by
  have : ∀ (cs : List Nat) (m : List Nat × List Nat), m.1.length = m.2.length → (cs.foldl (fun m c => insI m.1 m.2 c) m).1.length = (cs.foldl (fun m c => insI m.1 m.2 c) m).2.length := by
    intro cs
    induction cs with
    | nil => exact fun _ h => h
    | cons c cs ih => exact fun m h => ih _ (insI_len h c)
  exact this cs _ rfl
theorem mp_get (cs : List Nat) (s : Nat) : getI (mp cs).1 (mp cs).2 s = cs.count s := by
  have : ∀ (cs : List Nat) (m : List Nat × List Nat), m.1.length = m.2.length → getI (cs.foldl (fun m c => insI m.1 m.2 c) m).1 (cs.foldl (fun m c => insI m.1 m.2 c) m).2 s = getI m.1 m.2 s + cs.count s := by
    intro cs
    induction cs with
    | nil => exact fun m _ => by simp
    | cons c cs ih =>
      intro m h
      rw [List.foldl_cons, ih _ (insI_len h c), getI_ins h, List.count_cons]
      by_cases hsc : s = c
      · simp [hsc]; omega
      · simp [hsc, show ¬ c = s from fun e => hsc e.symm]
  have := this cs ([], []) rfl
  simpa [mp, getI, findI] using this
/-- The blocks, the first k of them placed. -/
def plA (bs : List Blk) (c : List Nat) : Nat → List Blk
  | 0 => bs
  | k + 1 => match bs[k]? with
    | some b => (plA bs c k).set k (setY (setX b (c.getD k 0 : Nat)) ((c.take k).count (c.getD k 0) : Nat))
    | none => plA bs c k
theorem plA_len (bs : List Blk) (c : List Nat) : ∀ k, (plA bs c k).length = bs.length
  | 0 => rfl
  | k + 1 => by
    rw [plA]
    split
    · rw [List.length_set, plA_len bs c k]
    · exact plA_len bs c k
theorem plA_get (bs : List Blk) (c : List Nat) : ∀ (k i : Nat), (plA bs c k)[i]? = (bs[i]?).map fun b => if i < k then setY (setX b (c.getD i 0 : Nat)) ((c.take i).count (c.getD i 0) : Nat) else b
  | 0, i => by simp [plA]
  | k + 1, i => by
    rw [plA]
    cases hb : bs[k]? with
    | none =>
      simp only
      rw [plA_get bs c k i]
      cases hi : bs[i]? with
      | none => rfl
      | some b =>
        have h1 := (List.getElem?_eq_some_iff.1 hi).1
        have h2 : bs.length ≤ k := by simpa using hb
        simp [show i < k by omega, show i < k + 1 by omega]
    | some b =>
      simp only
      rw [List.getElem?_set, plA_len]
      have hk := (List.getElem?_eq_some_iff.1 hb).1
      by_cases hik : k = i
      · subst hik
        have he := (List.getElem?_eq_some_iff.1 hb).2
        simp [hk, he]
      · rw [if_neg hik, plA_get bs c k i]
        cases hi : bs[i]? with
        | none => rfl
        | some b =>
          by_cases h : i < k
          · simp [h, show i < k + 1 by omega]
          · simp [h, show ¬ i < k + 1 by omega]
/-- What a lookup of a number comes to. -/
theorem look_int {σ : Sto} {o : Nat} {ks vs : List Nat} (h : σ[o]? = some (.map (ks.map keyI) (vs.map fun x => i64 (x : Nat)))) (hl : ks.length = vs.length) (s : Nat) : aLookup prog σ 139 false (.mapo o) (.val (.int .i64 (s : Nat))) = some (i64 (getI ks vs s : Nat)) := by
  have hT : prog.underlying 139 = some (.map 3 3) := by kernel_rfl
  have hk : prog.underlying 3 = some (.int .i64) := by kernel_rfl
  have hz : aZero prog 3 = some (i64 0) := zero3
  have hf := aFindK_int (kk := .i64) s ks 0
  simp only [keyI] at hf
  simp only [aLookup, hT, mapParts_o h, hk, plainK, if_true, keyI, hf, hz, getI]
  cases hs : findI ks s with
  | none => rfl
  | some i =>
    have := (findI_lt hs).1
    simp [List.getD_eq_getElem?_getD, show i < vs.length by omega]
theorem upd_int {σ : Sto} {o : Nat} {ks vs : List Nat} (h : σ[o]? = some (.map (ks.map keyI) (vs.map fun x => i64 (x : Nat)))) (hl : ks.length = vs.length) (s : Nat) :
    aMapUpd prog σ 139 (.mapo o) (.val (.int .i64 (s : Nat))) (i64 ((getI ks vs s + 1 : Nat) : Int)) = some (σ.set o (.map ((insI ks vs s).1.map keyI) ((insI ks vs s).2.map fun x => i64 (x : Nat)))) := by
  have hT : prog.underlying 139 = some (.map 3 3) := by kernel_rfl
  have hk : prog.underlying 3 = some (.int .i64) := by kernel_rfl
  have hf := aFindK_int (kk := .i64) s ks 0
  simp only [keyI] at hf
  simp only [aMapUpd, hT, h, hk, plainK, if_true, keyI, hf, getI, insI]
  cases hs : findI ks s with
  | none => simp [keyI]
  | some i =>
    have := (findI_lt hs).1
    simp only [Option.map_some, Nat.add_zero, List.length_map, show i < vs.length by omega, if_true, List.map_set]
mutual
/-- What holds no identity is left as it is. -/
theorem sub_bel0 (o len sz : Nat) (es : List AV) : ∀ v : AV, v.bel 0 = true → v.sub o len sz es = v
  | .agg cs, h | .tup cs, h | .sl _ cs, h | .slf _ cs, h | .er cs, h | .fn _ cs, h | .mapf _ cs, h => by
    simp only [AV.sub, subL_bel0 o len sz es cs h]
  | .slo _ _ ds k, h => by simp [AV.bel] at h
  | .osl o' _ _ _, h => by simp [AV.bel] at h
  | .ifc t v, h => by simp only [AV.sub, sub_bel0 o len sz es v h]
  | .any, _ | .val _, _ | .nilsl, _ | .ref _ _, _ | .mapo _, _ | .yl _, _ => rfl
theorem subL_bel0 (o len sz : Nat) (es : List AV) : ∀ l : List AV, belL 0 l = true → subL o len sz es l = l
  | [], _ => rfl
  | c :: cs, h => by
    simp only [belL, Bool.and_eq_true] at h
    simp only [subL, sub_bel0 o len sz es c h.1, subL_bel0 o len sz es cs h.2]
end
def rowL (q : Nat) (l : List Blk) : AV := if l = [] then .nilsl else .osl q 0 l.length 7
def objL (l : List Blk) : AO := if l = [] then .dead else .cells (flat l)
/-- A clone of blocks, whether there are any or not. -/
theorem cloneB_all (σ : Sto) (l : List Blk) (hn : l.length ≤ 2000) : ACalls prog Γ 70 [rowAV 7 true (l.map Blk.enc)] σ (fun v σ' => v = rowL (σ.length + 1) l ∧ σ' = σ ++ [.dead, objL l]) := by
  cases l with
  | nil =>
    intro C xs h1 h2 h3 h4
    refine (cloneB_nil σ C xs h1 h2 h3 h4).mono ?_
    rintro e w' ⟨D, x, v, rfl, rfl, k3, k4, k5, k6, rfl⟩
    have e1 := ghost_ext D (ao := .dead) rfl
    have r1 := ghost_rel k4 (ao := .dead) rfl
    have e2 := ghost_ext (D.ghost .dead) (ao := .dead) rfl
    have r2 := ghost_rel r1 (ao := .dead) rfl
    refine ⟨(D.ghost .dead).ghost .dead, x, .nilsl, rfl, rfl, k3.trans (e1.trans e2), r2, RelV.mono (e1.trans e2) k5, rfl, ?_⟩
    rw [← k6]
    simp [Ctx.ghost, objL]
  | cons b l =>
    have := cloneB_sl (Γ := Γ) σ ((b :: l).map Blk.enc) (by simpa using hn)
    refine this.mono ?_
    rintro v σ' ⟨rfl, rfl⟩
    refine ⟨?_, ?_⟩
    · rw [rowL, if_neg (by simp), List.length_map]
    · rw [objL, if_neg (by simp)]
      rfl
end Gr
end Go.Proofs.Tryd
/-! Place. -/
namespace Go.Proofs.Tryd
set_option linter.unusedSimpArgs false
set_option linter.unusedVariables false
open Go Go.Proofs.Ev
namespace Gr
variable {Γ : List (Nat × List AV)}
def plD (d : Dgm) (c : List Nat) : Dgm := { d with blocks := plA d.blocks c d.blocks.length }
def plL : List Dgm → Option (List Dgm)
  | [] => some []
  | d :: ds => match cols d with
    | some c => (plL ds).map (plD d c :: ·)
    | none => none
def Done (g ds : List Dgm) : Prop := ∃ l, ds = l ++ ds.drop g.length ∧ l.length = g.length ∧ plL l = some g
theorem plL_app : ∀ (l m : List Dgm) {g : List Dgm}, plL l = some g → plL (l ++ m) = (plL m).map (g ++ ·)
  | [], m, g, h => by
    cases h
    cases hm : plL m <;> simp [hm]
  | d :: l, m, g, h => by
    rw [plL] at h
    rw [List.cons_append, plL]
    cases hc : cols d with
    | none => rw [hc] at h; cases h
    | some c =>
      rw [hc] at h
      obtain ⟨g', hg, rfl⟩ := Option.map_eq_some_iff.1 h
      simp only
      rw [plL_app l m hg, Option.map_map]
      rfl
theorem done_nil (ds : List Dgm) : Done [] ds := ⟨[], by simp, rfl, rfl⟩
theorem done_snoc {g ds : List Dgm} {d : Dgm} {c : List Nat} (h : Done g ds) (hd : ds[g.length]? = some d) (hc : cols d = some c) : Done (g ++ [plD d c]) ds := by
  obtain ⟨l, h1, h2, h3⟩ := h
  obtain ⟨hlt, he⟩ := List.getElem?_eq_some_iff.1 hd
  refine ⟨l ++ [d], ?_, by simp [h2], ?_⟩
  · rw [List.length_append, List.length_singleton, List.append_assoc, List.singleton_append, ← he, ← List.drop_eq_getElem_cons hlt]
    exact h1
  · rw [plL_app l [d] h3, plL, hc]
    simp [plL]
theorem done_all {g ds : List Dgm} (h : Done g ds) (hl : g.length = ds.length) : plL ds = some g := by
  obtain ⟨l, h1, h2, h3⟩ := h
  rw [List.drop_of_length_le (by omega), List.append_nil] at h1
  rw [h1, h3]
theorem done_none {g ds : List Dgm} {d : Dgm} (h : Done g ds) (hd : ds[g.length]? = some d) (hc : cols d = none) : plL ds = none := by
  obtain ⟨l, h1, h2, h3⟩ := h
  obtain ⟨hlt, he⟩ := List.getElem?_eq_some_iff.1 hd
  rw [h1, plL_app l _ h3, List.drop_eq_getElem_cons hlt, he, plL, hc]
  rfl
def dflat (l : List Dgm) : List AV := (l.map Dgm.enc).flatMap AV.cells
theorem dflat_cons (d : Dgm) (l : List Dgm) : dflat (d :: l) = d.enc.cells ++ dflat l := by simp [dflat]
theorem dflat_app (l m : List Dgm) : dflat (l ++ m) = dflat l ++ dflat m := by simp [dflat]
theorem dflat_len (l : List Dgm) : (dflat l).length = l.length * 4 := by
  induction l with
  | nil => rfl
  | cons d l ih =>
    rw [dflat_cons, List.length_append, ih, List.length_cons]
    show 4 + _ = _
    omega
theorem dsplice (g : List Dgm) (d : Dgm) (l : List Dgm) (v : AV) : aSplice (dflat (g ++ d :: l)) (g.length * 4 + 3) [v] = dflat g ++ ([str d.name, rowAV 2 d.nlI (d.ins.map PortM.enc), rowAV 4 d.nlO (d.outs.map OutM.enc), v] ++ dflat l) := by
  rw [dflat_app, ← dflat_len g, splice_app, dflat_cons]
  rfl
theorem dflat_put (g : List Dgm) (d : Dgm) (l : List Dgm) : dflat g ++ ([str d.name, rowAV 2 d.nlI (d.ins.map PortM.enc), rowAV 4 d.nlO (d.outs.map OutM.enc), rowAV 7 d.nlB (d.blocks.map Blk.enc)] ++ dflat l) = dflat (g ++ d :: l) := by
  rw [dflat_app, dflat_cons]
  rfl
theorem port_b (p : PortM) (n : Nat) : p.enc.bel n = true := rfl
theorem out_b (o : OutM) (n : Nat) : o.enc.bel n = true := rfl
theorem dgm_cb (d : Dgm) (n : Nat) : belL n d.enc.cells = true := by
  show belL n [str d.name, rowAV 2 d.nlI (d.ins.map PortM.enc), rowAV 4 d.nlO (d.outs.map OutM.enc), rowAV 7 d.nlB (d.blocks.map Blk.enc)] = true
  simp [belL, AV.bel, row_b port_b, row_b out_b, row_b blk_b]
theorem belL_app {n : Nat} : ∀ {a b : List AV}, belL n a = true → belL n b = true → belL n (a ++ b) = true
  | [], _, _, h => h
  | c :: a, b, h1, h2 => by
    simp only [List.cons_append, belL, Bool.and_eq_true] at h1 ⊢
    exact ⟨h1.1, belL_app h1.2 h2⟩
theorem dflat_b (l : List Dgm) (n : Nat) : belL n (dflat l) = true := by
  induction l with
  | nil => rfl
  | cons d l ih =>
    rw [dflat_cons]
    exact belL_app (dgm_cb d n) ih
theorem subL_app (o len sz : Nat) (es : List AV) (a b : List AV) : subL o len sz es (a ++ b) = subL o len sz es a ++ subL o len sz es b := by rw [subL_map, subL_map, subL_map, List.map_append]
theorem ret_ct {fn : Func} {t u : Tmp} {T : TypeId} {σ : Sto} {env : Env} {v w : AV} (h : fn.results.toList = [.cell t T, .tmp u]) (hl : aLoad prog σ T (env.getD t .any) = some v) (hu : env[u]? = some w) : aReturn prog fn σ env = some (.tup [v, w]) := by
  simp only [aReturn, h, aResults, aResult, hl, hu]
theorem rowL_ne {q : Nat} {l : List Blk} (h : l ≠ []) : rowL q l = .osl q 0 l.length 7 := if_neg h
theorem objL_ne {l : List Blk} (h : l ≠ []) : objL l = .cells (flat l) := if_neg h
theorem spX {l : List Blk} {k : Nat} (h : k < l.length) (x : Int) : List.take (k * 7 + 4) (flat l) ++ .val (.int .i32 x) :: List.drop (k * 7 + 4 + 1) (flat l) = flat (l.set k (setX l[k] x)) := by
  rw [← (splice_at x l k h).1, aSplice, List.append_assoc]
  rfl
theorem spY {l : List Blk} {k : Nat} (h : k < l.length) (x : Int) : List.take (k * 7 + 5) (flat l) ++ .val (.int .i32 x) :: List.drop (k * 7 + 5 + 1) (flat l) = flat (l.set k (setY l[k] x)) := by
  rw [← (splice_at x l k h).2, aSplice, List.append_assoc]
  rfl
theorem mapat (σ τ : Sto) (a b c d e f m : AO) (l : Sto) : (σ ++ (a :: b :: c :: d :: e :: (τ ++ (f :: m :: l))))[σ.length + (τ.length + 6)]? = some m := by
  rw [app_get]
  show (τ ++ (f :: m :: l))[τ.length + 1]? = some m
  rw [app_get]
  rfl
theorem dgm_ld {d : Dgm} (h : d.nlB = true) : aGet prog 32 (List.drop 3 d.enc.cells) = some (rowAV 7 true (d.blocks.map Blk.enc)) := by
  rw [dgm_cells, h]
  exact get32 _ _
theorem rowat (σ τ : Sto) (a b c d e f m x y : AO) (l : Sto) : (σ ++ (a :: b :: c :: d :: e :: (τ ++ (f :: m :: x :: y :: l))))[σ.length + (τ.length + 2 + 1 + 1 + 1 + 1 + 1) + 1]? = some y := by
  rw [show σ.length + (τ.length + 2 + 1 + 1 + 1 + 1 + 1) + 1 = σ.length + (τ.length + 8) by omega, app_get]
  show (τ ++ (f :: m :: x :: y :: l))[τ.length + 3]? = some y
  rw [app_get]
  rfl
theorem rowset (σ τ : Sto) (a b c d e f m x y z : AO) (l : Sto) : (σ ++ (a :: b :: c :: d :: e :: (τ ++ (f :: m :: x :: y :: l)))).set (σ.length + (τ.length + 2 + 1 + 1 + 1 + 1 + 1) + 1) z = σ ++ (a :: b :: c :: d :: e :: (τ ++ (f :: m :: x :: z :: l))) := by
  rw [show σ.length + (τ.length + 2 + 1 + 1 + 1 + 1 + 1) + 1 = σ.length + (τ.length + 8) by omega, List.set_append_right _ _ (by omega), Nat.add_sub_cancel_left]
  show σ ++ (a :: b :: c :: d :: e :: (τ ++ (f :: m :: x :: y :: l)).set (τ.length + 3) z) = _
  rw [List.set_append_right _ _ (by omega), Nat.add_sub_cancel_left]
  rfl
theorem dgm_box4 (d : Dgm) : d.enc.cells ++ List.drop d.enc.cells.length [.val (.string ⟨#[]⟩), .nilsl, .nilsl, .nilsl] = d.enc.cells := by
  rw [List.drop_of_length_le (Nat.le_refl 4), List.append_nil]
theorem wk_set {env e : Env} {t : Tmp} {v : AV} (h : Wk e env) (ht : env[t]? = some .any) : Wk (e.set t v) env := by
  induction e generalizing env t with
  | nil => cases env with
    | nil => trivial
    | cons _ _ => exact h.elim
  | cons a e ih =>
    cases env with
    | nil => exact h.elim
    | cons b env =>
      cases t with
      | zero =>
        simp at ht
        exact ⟨.inl ht, h.2⟩
      | succ t => exact ⟨h.1, ih h.2 (by simpa using ht)⟩
theorem lastmu {F : Fr} {id : Nat} {t1 t2 t3 t4 m k : Tmp} {y1 y2 y3 y4 y5 : TypeId} {p1 p2 p3 p4 p5 : String} {f1 f2 f3 f4 f5 : Array Edge} {env : Env} {σ : Sto} {Q : Exit → Env → Sto → Prop} {o : Nat} {ks vs : List Nat} {s : Nat}
    (hm : env[m]? = some (.mapo o)) (hk : env[k]? = some (i64 (s : Nat))) (ho : σ[o]? = some (.map (ks.map keyI) (vs.map fun x => i64 (x : Nat)))) (hl : ks.length = vs.length) (hs : getI ks vs s < 1000000)
    (a1 : env[t1]? = some .any) (a2 : env[t2]? = some .any) (a3 : env[t3]? = some .any) (a4 : env[t4]? = some .any) (hne : t1 ≠ k ∧ t1 ≠ t2 ∧ t1 ≠ t3 ∧ t1 ≠ t4 ∧ t2 ≠ t3 ∧ t2 ≠ t4 ∧ t3 ≠ t4)
    (h : ∀ env', Wk env' env → Q .normal env' (σ.set o (.map ((insI ks vs s).1.map keyI) ((insI ks vs s).2.map fun x => i64 (x : Nat))))) :
    AW F prog Γ (.region id #[⟨some t1, .move (.tmp m), y1, p1, f1, none⟩, ⟨some t2, .move (.tmp k), y2, p2, f2, none⟩, ⟨some t3, .lookup 139 (.tmp t1) (.tmp t2) false, y3, p3, f3, none⟩, ⟨some t4, .binOp .add 3 (.tmp t3) (.const (.int .i64 1)) 3, y4, p4, f4, none⟩, ⟨none, .mapUpdate 139 (.tmp t1) (.tmp t2) (.tmp t4), y5, p5, f5, none⟩] false) env σ Q := by
  obtain ⟨n1, n2, n3, n4, n5, n6, n7⟩ := hne
  have b1 := (List.getElem?_eq_some_iff.1 a1).1
  have b2 := (List.getElem?_eq_some_iff.1 a2).1
  have b3 := (List.getElem?_eq_some_iff.1 a3).1
  have b4 := (List.getElem?_eq_some_iff.1 a4).1
  refine AW.region (l := [_, _, _, _, _]) ?_
  refine AOps.op (md := false) (want_none rfl) (v := .mapo o) (σ' := σ) (by simp [aop, opnd, List.getD_eq_getElem?_getD, hm]) ?_
  refine AOps.op (md := false) (want_none rfl) (v := i64 (s : Nat)) (σ' := σ) (by simp [aop, opnd, aput, List.getD_eq_getElem?_getD, List.getElem?_set, n1, hk]) ?_
  refine AOps.op (md := false) (want_none rfl) (v := i64 (getI ks vs s : Nat)) (σ' := σ) ?_ ?_
  · have e1 : opnd Γ (aput (aput env (some t1) (.mapo o)) (some t2) (i64 (s : Nat))) (.tmp t1) = .mapo o := by simp [opnd, aput, List.getD_eq_getElem?_getD, List.getElem?_set, n2.symm, b1]
    have e2 : opnd Γ (aput (aput env (some t1) (.mapo o)) (some t2) (i64 (s : Nat))) (.tmp t2) = i64 (s : Nat) := by simp [opnd, aput, List.getD_eq_getElem?_getD, b2]
    simp only [aop, e1, e2, look_int ho hl s, Option.map_some]
  refine AOps.op (md := false) (want_none rfl) (v := i64 ((getI ks vs s + 1 : Nat) : Int)) (σ' := σ) ?_ ?_
  · have e3 : opnd Γ (aput (aput (aput env (some t1) (.mapo o)) (some t2) (i64 (s : Nat))) (some t3) (i64 (getI ks vs s : Nat))) (.tmp t3) = i64 (getI ks vs s : Nat) := by simp [opnd, aput, List.getD_eq_getElem?_getD, b3]
    have e4 : ∀ env : Env, opnd Γ env (.const (.int .i64 1)) = i64 1 := fun _ => rfl
    simp only [aop, e3, e4, bin_add, wrap_add1 (a := getI ks vs s) (show getI ks vs s + 1 < 9223372036854775808 by omega), Option.map_some]
  · refine AOps.mapu (σ' := σ.set o (.map ((insI ks vs s).1.map keyI) ((insI ks vs s).2.map fun x => i64 (x : Nat)))) ?_ (AOps.nil (h _ ?_))
    · have e1 : opnd Γ (aput (aput (aput (aput env (some t1) (.mapo o)) (some t2) (i64 (s : Nat))) (some t3) (i64 (getI ks vs s : Nat))) (some t4) (i64 ((getI ks vs s + 1 : Nat) : Int))) (.tmp t1) = .mapo o := by simp [opnd, aput, List.getD_eq_getElem?_getD, List.getElem?_set, n2.symm, n3.symm, n4.symm, b1]
      have e2 : opnd Γ (aput (aput (aput (aput env (some t1) (.mapo o)) (some t2) (i64 (s : Nat))) (some t3) (i64 (getI ks vs s : Nat))) (some t4) (i64 ((getI ks vs s + 1 : Nat) : Int))) (.tmp t2) = i64 (s : Nat) := by simp [opnd, aput, List.getD_eq_getElem?_getD, List.getElem?_set, n5.symm, n6.symm, b2]
      have e4 : opnd Γ (aput (aput (aput (aput env (some t1) (.mapo o)) (some t2) (i64 (s : Nat))) (some t3) (i64 (getI ks vs s : Nat))) (some t4) (i64 ((getI ks vs s + 1 : Nat) : Int))) (.tmp t4) = i64 ((getI ks vs s + 1 : Nat) : Int) := by simp [opnd, aput, List.getD_eq_getElem?_getD, b4]
      rw [e1, e2, e4]
      exact upd_int ho hl s
    · exact wk_set (wk_set (wk_set (wk_set (Wk.refl _) a1) a2) a3) a4
theorem mapset (σ τ : Sto) (a b c d e f m z : AO) (l : Sto) : (σ ++ (a :: b :: c :: d :: e :: (τ ++ (f :: m :: l)))).set (σ.length + (τ.length + 6)) z = σ ++ (a :: b :: c :: d :: e :: (τ ++ (f :: z :: l))) := by
  rw [List.set_append_right _ _ (by omega), Nat.add_sub_cancel_left]
  show σ ++ (a :: b :: c :: d :: e :: (τ ++ (f :: m :: l)).set (τ.length + 1) z) = _
  rw [List.set_append_right _ _ (by omega), Nat.add_sub_cancel_left]
  rfl
theorem plA_step {bs : List Blk} {c : List Nat} {k : Nat} (hb : k < bs.length) : plA bs c (k + 1) = ((plA bs c k).set k (setX ((plA bs c k)[k]'(by rw [plA_len]; exact hb)) (c.getD k 0 : Nat))).set k (setY (setX ((plA bs c k)[k]'(by rw [plA_len]; exact hb)) (c.getD k 0 : Nat)) ((c.take k).count (c.getD k 0) : Nat)) := by
  have h0 : bs[k]? = some bs[k] := List.getElem?_eq_getElem hb
  have h1 : (plA bs c k)[k]'(by rw [plA_len]; exact hb) = bs[k] := by
    have := plA_get bs c k k
    rw [h0, List.getElem?_eq_getElem (by rw [plA_len]; exact hb)] at this
    simpa using this
  rw [plA, h0, h1, List.set_set]
theorem rowL_cells (q : Nat) (l : List Blk) : (rowL q l).cells = [rowL q l] := by
  unfold rowL
  split <;> rfl
theorem rowL_one (q : Nat) (l : List Blk) : (rowL q l).one = true := by
  unfold rowL
  split <;> rfl
theorem frz_d {n o : Nat} {σ : Sto} {g : List Dgm} {l : Nat} (ho : n ≤ o) (h : σ[o]? = some (.cells (dflat g))) (hl : l = g.length) : Frz n σ (.osl o 0 l 4) (.sl 4 (g.map Dgm.enc)) := by
  subst hl
  refine .row ho h (by rw [dflat_len]; omega) ?_ (by simp) (fun e he => by obtain ⟨x, _, rfl⟩ := List.mem_map.1 he; rfl)
  rw [List.drop_zero, List.take_of_length_le (by rw [dflat_len]; exact Nat.le_refl _)]
  exact FrzL.keep (dflat_b g n)
theorem frz_step {F : Fr} {c : Code} {env : Env} {σ τ : Sto} {Q : Exit → Env → Sto → Prop} {l l' : List Blk} (hl : l'.length = l.length) {a b x e f m y : AO} {A B : List AV} {n0 r1 r2 : AV}
    (henv : ∀ q es, subL q l.length 7 es env = env) (ha : ∀ q es, a.sub q l.length 7 es = a) (hb : ∀ q es, b.sub q l.length 7 es = b) (hx : ∀ q es, x.sub q l.length 7 es = x) (he : ∀ es, e.sub (σ.length + (τ.length + 2 + 1 + 1 + 1 + 1 + 1) + 1) l.length 7 es = e)
    (hA : belL 0 A = true) (hB : belL 0 B = true) (h0 : belL 0 [n0, r1, r2] = true)
    (h : ∀ τ', AW F prog Γ c env (σ ++ (a :: b :: x :: .cells (A ++ ([n0, r1, r2, rowAV 7 true (l'.map Blk.enc)] ++ B)) :: e :: τ')) Q) :
    AW F prog Γ c env (σ ++ (a :: b :: x :: .cells (A ++ ([n0, r1, r2, rowL (σ.length + (τ.length + 2 + 1 + 1 + 1 + 1 + 1) + 1) l] ++ B)) :: e :: (τ ++ [f, m, y, objL l']))) Q := by
  by_cases hn : l = []
  · have hn' : l' = [] := List.eq_nil_of_length_eq_zero (by rw [hl, hn]; rfl)
    rw [rowL, if_pos hn]
    have := h (τ ++ [f, m, y, objL l'])
    rw [hn'] at this ⊢
    exact this
  · have hn' : l' ≠ [] := fun e => hn (List.eq_nil_of_length_eq_zero (by rw [← hl, e]; rfl))
    rw [rowL_ne hn, objL_ne hn']
    refine AW.freeze σ.length (σ.length + (τ.length + 2 + 1 + 1 + 1 + 1 + 1) + 1) l.length 7 (l'.map Blk.enc) (cs := flat l') (rowat _ _ _ _ _ _ _ _ _ _ _ _) rfl (by simp [hl]) (fun e he => by obtain ⟨x, _, rfl⟩ := List.mem_map.1 he; rfl) ?_
    rw [henv, rowset]
    simp only [subFrom_app, List.map_cons, ha, hb, hx, he]
    have e1 : AO.sub (σ.length + (τ.length + 2 + 1 + 1 + 1 + 1 + 1) + 1) l.length 7 (l'.map Blk.enc) (.cells (A ++ ([n0, r1, r2, .osl (σ.length + (τ.length + 2 + 1 + 1 + 1 + 1 + 1) + 1) 0 l.length 7] ++ B))) = .cells (A ++ ([n0, r1, r2, rowAV 7 true (l'.map Blk.enc)] ++ B)) := by
      simp only [belL, Bool.and_eq_true, Bool.and_true] at h0
      obtain ⟨g1, g2, g3⟩ := h0
      have hr : rowAV 7 true (l'.map Blk.enc) = .sl 7 (l'.map Blk.enc) := by
        cases l' with
        | nil => exact absurd rfl hn'
        | cons b l' => rfl
      simp only [AO.sub, subL_app, subL_bel0 _ _ _ _ A hA, subL_bel0 _ _ _ _ B hB, subL, sub_bel0 _ _ _ _ _ g1, sub_bel0 _ _ _ _ _ g2, sub_bel0 _ _ _ _ _ g3, hr]
      simp [AV.sub]
    rw [e1]
    exact h _
theorem wk_any (t : Nat) : ∀ env : Env, Wk env (env.set t .any) := fun env => by
  induction env generalizing t with
  | nil => trivial
  | cons a env ih =>
    cases t with
    | zero => exact ⟨.inl rfl, Wk.refl _⟩
    | succ t => exact ⟨.inr rfl, ih t⟩
end Gr
end Go.Proofs.Tryd
/-! Place, walked. -/
namespace Go.Proofs.Tryd
set_option linter.unusedSimpArgs false
set_option linter.unusedVariables false
open Go Go.Proofs.Ev
namespace Gr
variable {Γ : List (Nat × List AV)}
set_option maxRecDepth 100000 in
theorem place_cons (ds : List Dgm) (hlen : ds.length ≤ 12) (hsm : ∀ d ∈ ds, d.small) (hnb : ∀ d ∈ ds, d.nlB = true) (hR : APure prog Γ 9 [.agg [.sl 4 (ds.map Dgm.enc)]] (.val (.bool true))) : APure prog Γ 38 [.agg [.sl 4 (ds.map Dgm.enc)]] (match plL ds with | some g => .tup [.agg [.sl 4 (g.map Dgm.enc)], i64 0] | none => .tup [.agg [.nilsl], i64 9]) := by
  refine APure.of func38 rfl fun σ => ?_
  simp only [ntmps38, List.length_cons, List.length_nil, Nat.reduceAdd, Nat.reduceSub, List.replicate_succ, List.replicate_zero, List.cons_append, List.nil_append]
  have hll : ds.length ≤ maxLen := by rw [maxLen_eq]; omega
  refine AW.regl false [1, 2, 3] (by rfl) fun K1 hK1 => ?_ -- region 0
  simp only [go_sem, Nat.reduceAdd, Nat.reduceEqDiff, Nat.reduceLeDiff, true_and, src_get, blk_get, dgm_get, blk_all, src_all, dgm_all, List.length_map, len_row, one_row, List.drop_zero]
  refine hK1 _ _ ?_; try clear hK1 K1
  conv => enter [5]; simp only [setL_cons, setL_nil, List.set_cons_zero, List.set_cons_succ]
  refine AW.seq_k fun K2 hK2 => ?_
  refine AW.regl false [15] (by rfl) fun K3 hK3 => ?_ -- region 1
  simp only [go_sem, Nat.reduceAdd, Nat.reduceEqDiff, Nat.reduceLeDiff, true_and, src_get, blk_get, dgm_get, blk_all, src_all, dgm_all, List.length_map, len_row, one_row, List.drop_zero]
  refine sC.of en9 (hR.on _).here (by rfl) ?_
  simp only [go_sem, Nat.reduceAdd, Nat.reduceEqDiff, Nat.reduceLeDiff, true_and, src_get, blk_get, dgm_get, blk_all, src_all, dgm_all, List.length_map, len_row, one_row, List.drop_zero]
  refine hK3 _ _ ?_; try clear hK3 K3
  conv => enter [5]; simp only [setL_cons, setL_nil, List.set_cons_zero, List.set_cons_succ]
  refine AW.cond rfl (fun hc15 => ?_) (fun hc15 => ?_)
  · skip
    exact absurd hc15 (by simp)
  · skip
    refine AW.skip ?_
    refine hK2 _ _ ?_; try clear hK2 K2
    refine AW.regl false [4] (by rfl) fun K4 hK4 => ?_ -- region 3
    simp only [go_sem, Nat.reduceAdd, Nat.reduceEqDiff, Nat.reduceLeDiff, true_and, src_get, blk_get, dgm_get, blk_all, src_all, dgm_all, List.length_map, len_row, one_row, List.drop_zero]
    refine sC.ofR en68 (cloneD_sl _ (ds.map Dgm.enc) (by simp; omega)) (fun v' σ' hR => ?_)
    obtain ⟨rfl, rfl⟩ := hR
    simp only [go_sem, Nat.reduceAdd, Nat.reduceEqDiff, Nat.reduceLeDiff, true_and, src_get, blk_get, dgm_get, blk_all, src_all, dgm_all, List.length_map, len_row, one_row, List.drop_zero]
    refine hK4 _ _ ?_; try clear hK4 K4
    conv => enter [5]; simp only [setL_cons, setL_nil, List.set_cons_zero, List.set_cons_succ, upd_none, upd_at]
    refine AW.seq_k fun K5 hK5 => ?_
    refine AW.regl false [22, 23, 24] (by rfl) fun K6 hK6 => ?_ -- region 4
    simp only [go_sem, Nat.reduceAdd, Nat.reduceEqDiff, Nat.reduceLeDiff, true_and, src_get, blk_get, dgm_get, blk_all, src_all, dgm_all, List.length_map, len_row, one_row, List.drop_zero]
    refine hK6 _ _ ?_; try clear hK6 K6
    conv => enter [5]; simp only [setL_cons, setL_nil, List.set_cons_zero, List.set_cons_succ]
    refine AW.block ?_
    refine AW.loop_wk (α := List Dgm × Sto) (fun z => [.any, (.ref σ.length 0), (.ref (σ.length + 1) 0), .any, (.ref (σ.length + 4) 0), .any, .any, .any, .any, .any, .any, .any, .any, .any, .any, .any, .any, .any, .any, .any, .any, .any, (.sl 4 (ds.map Dgm.enc)), (i64 ds.length), (i64 (z.1.length : Nat)), .any, .any, .any, .any, .any, .any, .any, .any, .any, .any, .any, .any, .any, .any, .any, .any, .any, .any, .any, .any, .any, .any, .any, .any, .any, .any, .any, .any, .any, .any, .any, .any, .any, .any, .any, .any, .any, .any, .any, .any, .any, .any, .any, .any, .any, .any, .any, .any, .any, .any, .any]) (fun z => σ ++ (.cells [.sl 4 (ds.map Dgm.enc)] :: .cells [.nilsl] :: .dead :: .cells (dflat (z.1 ++ ds.drop z.1.length)) :: .cells [.osl (σ.length + 3) 0 ds.length 4] :: z.2)) (fun z => ds.length - z.1.length) (fun z => z.1.length ≤ ds.length ∧ Done z.1 ds) ([], []) ?_ ?_
    · exact ⟨⟨Nat.zero_le _, done_nil ds⟩, by simp [Wk], rfl⟩
    · rintro ⟨g, τ⟩ ⟨hg, hD⟩
      simp only at hg hD
      refine AW.regl false [25] (by rfl) fun K7 hK7 => ?_ -- region 5
      simp only [go_sem, Nat.reduceAdd, Nat.reduceEqDiff, Nat.reduceLeDiff, true_and, src_get, blk_get, dgm_get, blk_all, src_all, dgm_all, List.length_map, len_row, one_row, List.drop_zero]
      refine hK7 _ _ ?_; try clear hK7 K7
      conv => enter [5]; simp only [setL_cons, setL_nil, List.set_cons_zero, List.set_cons_succ]
      refine AW.seq_k fun K8 hK8 => ?_
      refine AW.cond rfl (fun hc25 => ?_) (fun hc25 => ?_)
      · skip
        have hi1 : g.length < ds.length := by simpa using hc25
        obtain ⟨d, hdd⟩ : ∃ z, z = ds[g.length] := ⟨_, rfl⟩
        have hd : ds[g.length]? = some d := by rw [hdd]; exact List.getElem?_eq_getElem hi1
        have hx : (ds.map Dgm.enc)[g.length]? = some d.enc := by rw [List.getElem?_map, hd]; rfl
        have hds := hsm d (List.mem_of_getElem? hd)
        have hdb := hnb d (List.mem_of_getElem? hd)
        have hbl : d.blocks.length ≤ 200 := hds.2.2.1
        have hcol := columns_calls (Γ := Γ) d hds
        refine AW.skip ?_
        refine hK8 _ _ ?_; try clear hK8 K8
        refine AW.seq_k fun K9 hK9 => ?_
        refine AW.block ?_
        refine AW.regl false [6, 5] (by rfl) fun K10 hK10 => ?_ -- region 6
        simp only [go_sem, Nat.reduceAdd, Nat.reduceEqDiff, Nat.reduceLeDiff, true_and, src_get, blk_get, dgm_get, blk_all, src_all, dgm_all, List.length_map, len_row, one_row, List.drop_zero, at_sl hx, dgm_box4]
        refine hK10 _ _ ?_; try clear hK10 K10
        conv => enter [5]; simp only [setL_cons, setL_nil, List.set_cons_zero, List.set_cons_succ, upd_none, upd_at]
        rcases hcd : cols d with _ | c
        · rw [hcd] at hcol
          refine AW.regl false [7, 8] (by rfl) fun K11 hK11 => ?_
          simp only [go_sem, Nat.reduceAdd, Nat.reduceEqDiff, Nat.reduceLeDiff, true_and, src_get, blk_get, dgm_get, blk_all, src_all, dgm_all, List.length_map, len_row, one_row, List.drop_zero]
          refine sC.of en69 (hcol.on _).here (by rfl) ?_
          simp only [go_sem, Nat.reduceAdd, Nat.reduceEqDiff, Nat.reduceLeDiff, true_and, src_get, blk_get, dgm_get, blk_all, src_all, dgm_all, List.length_map, len_row, one_row, List.drop_zero]
          refine hK11 _ _ ?_
          conv => enter [5]; simp only [setL_cons, setL_nil, List.set_cons_zero, List.set_cons_succ]
          refine AW.seq_k fun K12 hK12 => ?_
          refine AW.regl false [35] (by rfl) fun K13 hK13 => ?_
          simp only [go_sem, Nat.reduceAdd, Nat.reduceEqDiff, Nat.reduceLeDiff, true_and, src_get, blk_get, dgm_get, blk_all, src_all, dgm_all, List.length_map, len_row, one_row, List.drop_zero]
          refine hK13 _ _ ?_
          conv => enter [5]; simp only [setL_cons, setL_nil, List.set_cons_zero, List.set_cons_succ]
          refine AW.cond rfl (fun hc35 => ?_) (fun hc35 => ?_)
          · refine AW.regl false [3] (by rfl) fun K14 hK14 => ?_
            simp only [go_sem, Nat.reduceAdd, Nat.reduceEqDiff, Nat.reduceLeDiff, true_and, src_get, blk_get, dgm_get, blk_all, src_all, dgm_all, List.length_map, len_row, one_row, List.drop_zero]
            refine hK14 _ _ ?_
            conv => enter [5]; simp only [setL_cons, setL_nil, List.set_cons_zero, List.set_cons_succ]
            exact AW.ret ⟨.inr rfl, _, ret_ct (v := .agg [.nilsl]) rfl (by simp only [go_sem, List.append_assoc, List.cons_append, List.nil_append]) rfl, by simp, by rw [done_none hD hd hcd]; exact .keep rfl⟩
          · exact absurd hc35 (by simp)
        rw [hcd] at hcol
        have hcl : c.length = d.blocks.length := by have := (colsGo_good _ _ _ 0 (fun x hx => by have := List.eq_of_mem_replicate hx; omega) hcd).1; simpa using this
        have hlc : c.length ≤ maxLen := by rw [maxLen_eq]; omega
        have hct : top c 1616000 := by
          have h1 := (colsGo_good _ _ _ 0 (fun x hx => by have := List.eq_of_mem_replicate hx; omega) hcd).2.1
          have h2 := edsF_len d.blocks 0 hds.2.2.2.2
          have h3 : (d.blocks.length + 2) * (edsF 0 d.blocks).length ≤ 202 * 8000 := Nat.mul_le_mul (by omega) (by omega)
          exact fun x hx => Nat.le_trans (h1 x hx) (by omega)
        refine AW.regl false [7, 8] (by rfl) fun K11 hK11 => ?_ -- region 7
        simp only [go_sem, Nat.reduceAdd, Nat.reduceEqDiff, Nat.reduceLeDiff, true_and, src_get, blk_get, dgm_get, blk_all, src_all, dgm_all, List.length_map, len_row, one_row, List.drop_zero]
        refine sC.of en69 (hcol.on _).here (by rfl) ?_
        simp only [go_sem, Nat.reduceAdd, Nat.reduceEqDiff, Nat.reduceLeDiff, true_and, src_get, blk_get, dgm_get, blk_all, src_all, dgm_all, List.length_map, len_row, one_row, List.drop_zero]
        refine hK11 _ _ ?_; try clear hK11 K11
        conv => enter [5]; simp only [setL_cons, setL_nil, List.set_cons_zero, List.set_cons_succ]
        refine AW.seq_k fun K12 hK12 => ?_
        refine AW.regl false [35] (by rfl) fun K13 hK13 => ?_ -- region 8
        simp only [go_sem, Nat.reduceAdd, Nat.reduceEqDiff, Nat.reduceLeDiff, true_and, src_get, blk_get, dgm_get, blk_all, src_all, dgm_all, List.length_map, len_row, one_row, List.drop_zero]
        refine hK13 _ _ ?_; try clear hK13 K13
        conv => enter [5]; simp only [setL_cons, setL_nil, List.set_cons_zero, List.set_cons_succ]
        refine AW.cond rfl (fun hc35 => ?_) (fun hc35 => ?_)
        · skip
          exact absurd hc35 (by simp)
        · skip
          refine AW.skip ?_
          refine hK12 _ _ ?_; try clear hK12 K12
          refine AW.regl false [9] (by rfl) fun K14 hK14 => ?_ -- region 10
          simp only [go_sem, Nat.reduceAdd, Nat.reduceEqDiff, Nat.reduceLeDiff, true_and, src_get, blk_get, dgm_get, blk_all, src_all, dgm_all, List.length_map, len_row, one_row, List.drop_zero, aMakeMap]
          refine hK14 _ _ ?_; try clear hK14 K14
          conv => enter [5]; simp only [setL_cons, setL_nil, List.set_cons_zero, List.set_cons_succ]
          refine AW.regl false [10] (by rfl) fun K15 hK15 => ?_ -- region 11
          simp only [go_sem, Nat.reduceAdd, Nat.reduceEqDiff, Nat.reduceLeDiff, true_and, src_get, blk_get, dgm_get, blk_all, src_all, dgm_all, List.length_map, len_row, one_row, List.drop_zero, dgm_ld hdb]
          refine sC.ofR en70 (cloneB_all _ d.blocks (by omega)) (fun v' σ' hR => ?_)
          obtain ⟨rfl, rfl⟩ := hR
          simp only [go_sem, Nat.reduceAdd, Nat.reduceEqDiff, Nat.reduceLeDiff, true_and, src_get, blk_get, dgm_get, blk_all, src_all, dgm_all, List.length_map, len_row, one_row, List.drop_zero, dgm_ld hdb]
          refine hK15 _ _ ?_; try clear hK15 K15
          conv => enter [5]; simp only [setL_cons, setL_nil, List.set_cons_zero, List.set_cons_succ]
          refine AW.seq_k fun K16 hK16 => ?_
          refine AW.regl false [42, 43, 44] (by rfl) fun K17 hK17 => ?_ -- region 12
          simp only [go_sem, Nat.reduceAdd, Nat.reduceEqDiff, Nat.reduceLeDiff, true_and, src_get, blk_get, dgm_get, blk_all, src_all, dgm_all, List.length_map, len_row, one_row, List.drop_zero]
          refine hK17 _ _ ?_; try clear hK17 K17
          conv => enter [5]; simp only [setL_cons, setL_nil, List.set_cons_zero, List.set_cons_succ]
          refine AW.block ?_
          refine AW.loop_wk (α := Nat) (fun k => [.any, (.ref σ.length 0), (.ref (σ.length + 1) 0), .any, (.ref (σ.length + 4) 0), (i64 (g.length : Nat)), .any, .any, .any, (.mapo (σ.length + (τ.length + 6))), (rowL (σ.length + (τ.length + 2 + 1 + 1 + 1 + 1 + 1) + 1) d.blocks), .any, .any, .any, .any, .any, .any, .any, .any, .any, .any, .any, (.sl 4 (ds.map Dgm.enc)), (i64 ds.length), (i64 (g.length : Nat)), .any, .any, .any, .any, .any, .any, .any, .any, .any, .any, .any, .any, .any, .any, .any, .any, .any, (.sl 1 (ints c)), (i64 (c.length : Nat)), (i64 (k : Nat)), .any, .any, .any, .any, .any, .any, .any, .any, .any, .any, .any, .any, .any, .any, .any, .any, .any, .any, .any, .any, .any, .any, .any, .any, .any, .any, .any, .any, .any, .any, .any]) (fun k => σ ++ (.cells [.sl 4 (ds.map Dgm.enc)] :: .cells [.nilsl] :: .dead :: .cells (dflat (g ++ ds.drop g.length)) :: .cells [.osl (σ.length + 3) 0 ds.length 4] :: (τ ++ [.cells d.enc.cells, .map ((mp (c.take k)).1.map keyI) ((mp (c.take k)).2.map fun x => i64 (x : Nat)), .dead, objL (plA d.blocks c k)]))) (fun k => c.length - k) (fun k => k ≤ c.length) 0 ?_ ?_
          · exact ⟨Nat.zero_le _, by simp [Wk], rfl⟩
          · intro k hi
            refine AW.regl false [45] (by rfl) fun K18 hK18 => ?_ -- region 13
            simp only [go_sem, Nat.reduceAdd, Nat.reduceEqDiff, Nat.reduceLeDiff, true_and, src_get, blk_get, dgm_get, blk_all, src_all, dgm_all, List.length_map, len_row, one_row, List.drop_zero]
            refine hK18 _ _ ?_; try clear hK18 K18
            conv => enter [5]; simp only [setL_cons, setL_nil, List.set_cons_zero, List.set_cons_succ]
            refine AW.seq_k fun K19 hK19 => ?_
            refine AW.cond rfl (fun hc45 => ?_) (fun hc45 => ?_)
            · skip
              have hk1 : k < c.length := by simpa using hc45
              have hk1 : k < c.length := by simpa using hc45
              have hxk : (ints c)[k]? = some (i64 ((c.getD k 0 : Nat) : Int)) := by simp [List.getD_eq_getElem?_getD, hk1]
              have hkb : k < d.blocks.length := by omega
              have htk1 : c.take (k + 1) = c.take k ++ [c.getD k 0] := by rw [List.take_succ_eq_append_getElem hk1]; simp [List.getD_eq_getElem?_getD, hk1]
              have hwx : IntKind.wrap .i32 ((c.getD k 0 : Nat) : Int) = ((c.getD k 0 : Nat) : Int) := wrap_i32 (by omega) (by have := top_getD hct k; omega)
              have hwy : IntKind.wrap .i32 ((getI (mp (c.take k)).1 (mp (c.take k)).2 (c.getD k 0) : Nat) : Int) = (((c.take k).count (c.getD k 0) : Nat) : Int) := by
                rw [mp_get]
                have := List.count_le_length (a := c.getD k 0) (l := c.take k)
                rw [List.length_take] at this
                exact wrap_i32 (by omega) (by omega)
              have hne : d.blocks ≠ [] := fun e => by rw [e] at hkb; simp at hkb
              have hc4 : k * 7 + 4 + 1 ≤ d.blocks.length * 7 := by omega
              have hc5 : k * 7 + 5 + 1 ≤ d.blocks.length * 7 := by omega
              have hkp : k < (plA d.blocks c k).length := by rw [plA_len]; exact hkb
              have hkq : k < ((plA d.blocks c k).set k (setX (plA d.blocks c k)[k] (IntKind.wrap .i32 ((c.getD k 0 : Nat) : Int)))).length := by rw [List.length_set]; exact hkp
              have hpne : plA d.blocks c k ≠ [] := fun e => by have := plA_len d.blocks c k; rw [e] at this; simp at this; omega
              refine AW.skip ?_
              refine hK19 _ _ ?_; try clear hK19 K19
              refine AW.seq_k fun K20 hK20 => ?_
              refine AW.block ?_
              refine AW.regl false [11, 12] (by rfl) fun K21 hK21 => ?_ -- region 14
              simp only [go_sem, Nat.reduceAdd, Nat.reduceEqDiff, Nat.reduceLeDiff, true_and, src_get, blk_get, dgm_get, blk_all, src_all, dgm_all, List.length_map, len_row, one_row, List.drop_zero, at_sl hxk]
              refine hK21 _ _ ?_; try clear hK21 K21
              conv => enter [5]; simp only [setL_cons, setL_nil, List.set_cons_zero, List.set_cons_succ]
              refine AW.regl false [] (by rfl) fun K22 hK22 => ?_ -- region 15
              simp only [go_sem, Nat.reduceAdd, Nat.reduceEqDiff, Nat.reduceLeDiff, true_and, src_get, blk_get, dgm_get, blk_all, src_all, dgm_all, List.length_map, len_row, one_row, List.drop_zero, rowL_ne hne, objL_ne hpne, at_osl hkb, look_int (mapat _ _ _ _ _ _ _ _ _ _) (mp_len _), Nat.zero_add, rowat, rowset, flat_len, plA_len, List.length_set, hc4, hc5, if_true, spX hkp, spY hkq]
              refine hK22 _ _ ?_; try clear hK22 K22
              conv => enter [5]; simp only [setL_cons, setL_nil, List.set_cons_zero, List.set_cons_succ, upd_none, upd_at]
              refine lastmu (o := σ.length + (τ.length + 6)) (s := c.getD k 0) (ks := (mp (c.take k)).1) (vs := (mp (c.take k)).2) rfl rfl (mapat _ _ _ _ _ _ _ _ _ _) (mp_len _) (by rw [mp_get]; have := List.count_le_length (a := c.getD k 0) (l := c.take k); rw [List.length_take] at this; omega) rfl rfl rfl rfl (by decide) fun env' hw => ?_
              refine hK20 _ _ (AW.weaken hw ?_); clear hw; try clear hK20 K20
              conv => enter [6]; rw [mapset]
              refine AW.lastl false [44] (by rfl) fun K hK => ?_ -- region 17
              simp only [go_sem, Nat.reduceAdd, Nat.reduceEqDiff, Nat.reduceLeDiff, true_and, src_get, blk_get, dgm_get, blk_all, src_all, dgm_all, List.length_map, len_row, one_row, List.drop_zero]
              refine hK _ _ fun env' hw => ?_
              simp only [setL_cons, setL_nil, List.set_cons_zero, List.set_cons_succ] at hw
              refine ⟨k + 1, by omega, by omega, ?_, ?_⟩
              · refine hw.trans ?_
                simp [Wk, wrap_succ hk1 hlc]
              · rw [htk1, mp_snoc, plA_step hkb, objL_ne (fun e => hpne (List.eq_nil_of_length_eq_zero (by have := congrArg List.length e; simpa using this)))]
                simp only [hwx, hwy, List.getElem_set_self]
            · skip
              have hk1 : k = c.length := by
                have : ¬ k < c.length := by simpa using hc45
                omega
              have hkn : k = c.length := by
                have : ¬ k < c.length := by simpa using hc45
                omega
              have hdr : ds.drop g.length = d :: ds.drop (g.length + 1) := by rw [List.drop_eq_getElem_cons hi1, hdd]
              have hdl : g.length * 4 + 3 + 1 ≤ (dflat (g ++ List.drop g.length ds)).length := by rw [dflat_len, List.length_append, List.length_drop]; omega
              have hds2 : ∀ v, List.take (g.length * 4 + 3) (dflat (g ++ List.drop g.length ds)) ++ v :: List.drop (g.length * 4 + 3 + 1) (dflat (g ++ List.drop g.length ds)) = dflat g ++ ([str d.name, rowAV 2 d.nlI (d.ins.map PortM.enc), rowAV 4 d.nlO (d.outs.map OutM.enc), v] ++ dflat (ds.drop (g.length + 1))) := fun v => by
                rw [hdr, ← dsplice, aSplice, List.append_assoc]
                rfl
              refine AW.exit ?_
              refine hK16 _ _ ?_; try clear hK16 K16
              refine AW.lastl false [] (by rfl) fun K hK => ?_ -- region 18
              simp only [go_sem, Nat.reduceAdd, Nat.reduceEqDiff, Nat.reduceLeDiff, true_and, src_get, blk_get, dgm_get, blk_all, src_all, dgm_all, List.length_map, len_row, one_row, List.drop_zero, at_osl hi1, Nat.zero_add, rowL_cells, rowL_one, List.length_singleton, hdl, if_true, hds2]
              refine hK _ _ fun env' hw => ?_
              simp only [setL_cons, setL_nil, List.set_cons_zero, List.set_cons_succ] at hw
              refine hK9 _ _ (AW.weaken hw ?_); clear hw; try clear hK9 K9
              refine AW.weaken (wk_any 10 _) ?_
              conv => enter [5]; simp only [List.set_cons_zero, List.set_cons_succ]
              have hdsb : ∀ q len sz es, subL q len sz es (ds.map Dgm.enc) = ds.map Dgm.enc := fun q len sz es => subL_bel0 _ _ _ _ _ (belL_map _ _ fun d _ => dgm_cb d 0)
              have hcb : ∀ q len sz es, subL q len sz es (ints c) = ints c := fun q len sz es => subL_bel0 _ _ _ _ _ (belL_map _ _ fun _ _ => rfl)
              refine frz_step (l := d.blocks) (l' := plA d.blocks c k) (plA_len _ _ _) (fun q es => by simp [subL, AV.sub, hdsb, hcb]) (fun q es => by simp [AO.sub, subL, AV.sub, hdsb]) (fun q es => rfl) (fun q es => rfl) (fun es => by first | (simp [AO.sub, subL, AV.sub]; done) | (simp [AO.sub, subL, AV.sub]; omega)) (dflat_b g 0) (dflat_b _ 0) (by simp [belL, AV.bel, row_b port_b, row_b out_b]) fun τ'' => ?_
              refine AW.lastl false [24] (by rfl) fun K hK => ?_ -- region 19
              simp only [go_sem, Nat.reduceAdd, Nat.reduceEqDiff, Nat.reduceLeDiff, true_and, src_get, blk_get, dgm_get, blk_all, src_all, dgm_all, List.length_map, len_row, one_row, List.drop_zero]
              refine hK _ _ fun env' hw => ?_
              simp only [setL_cons, setL_nil, List.set_cons_zero, List.set_cons_succ] at hw
              have hput : dflat g ++ ([str d.name, rowAV 2 d.nlI (d.ins.map PortM.enc), rowAV 4 d.nlO (d.outs.map OutM.enc), rowAV 7 true ((plA d.blocks c k).map Blk.enc)] ++ dflat (ds.drop (g.length + 1))) = dflat ((g ++ [plD d c]) ++ ds.drop (g ++ [plD d c]).length) := by
                rw [List.length_append, List.length_singleton, List.append_assoc, List.singleton_append, ← dflat_put, plD]
                simp only [hdb, hkn, hcl]
              refine ⟨(g ++ [plD d c], τ''), by simp only [List.length_append, List.length_singleton]; omega, ⟨by simp only [List.length_append, List.length_singleton]; omega, done_snoc hD hd hcd⟩, ?_, by simp only; rw [← hput]; rfl⟩
              refine hw.trans ?_
              simp [Wk, wrap_succ hi1 hll]
      · skip
        have hi1 : g.length = ds.length := by
          have : ¬ g.length < ds.length := by simpa using hc25
          omega
        have hall := done_all hD hi1
        refine AW.exit ?_
        refine hK5 _ _ ?_; try clear hK5 K5
        refine AW.regl false [3] (by rfl) fun K23 hK23 => ?_ -- region 20
        simp only [go_sem, Nat.reduceAdd, Nat.reduceEqDiff, Nat.reduceLeDiff, true_and, src_get, blk_get, dgm_get, blk_all, src_all, dgm_all, List.length_map, len_row, one_row, List.drop_zero]
        refine hK23 _ _ ?_; try clear hK23 K23
        conv => enter [5]; simp only [setL_cons, setL_nil, List.set_cons_zero, List.set_cons_succ]
        refine AW.ret ⟨.inr rfl, _, ret_ct (v := .agg [.osl (σ.length + 3) 0 ds.length 4]) rfl (by simp only [go_sem, List.append_assoc, List.cons_append, List.nil_append]) rfl, by simp, ?_⟩ -- return 1
        rw [hall]
        have hs0 : dflat (g ++ List.drop g.length ds) = dflat g := by rw [List.drop_of_length_le (by omega), List.append_nil]
        exact .tup (.cons (.agg (.cons (frz_d (by omega) ((app_get σ _ 3).trans (congrArg (fun x => some (AO.cells x)) hs0)) hi1.symm) .nil)) (.cons (.keep rfl) .nil))

set_option maxRecDepth 100000 in
theorem place_nil (hR : APure prog Γ 9 [.agg [.nilsl]] (.val (.bool true))) : APure prog Γ 38 [.agg [.nilsl]] (.tup [.agg [.nilsl], i64 0]) := by
  refine APure.of func38 rfl fun σ => ?_
  simp only [ntmps38, List.length_cons, List.length_nil, Nat.reduceAdd, Nat.reduceSub, List.replicate_succ, List.replicate_zero, List.cons_append, List.nil_append]
  refine AW.regl false [1, 2, 3] (by rfl) fun K1 hK1 => ?_ -- region 0
  simp only [go_sem, Nat.reduceAdd, Nat.reduceEqDiff, Nat.reduceLeDiff, true_and, src_get, blk_get, dgm_get, blk_all, src_all, dgm_all, List.length_map, len_row, one_row, List.drop_zero]
  refine hK1 _ _ ?_; try clear hK1 K1
  conv => enter [5]; simp only [setL_cons, setL_nil, List.set_cons_zero, List.set_cons_succ]
  refine AW.seq_k fun K2 hK2 => ?_
  refine AW.regl false [15] (by rfl) fun K3 hK3 => ?_ -- region 1
  simp only [go_sem, Nat.reduceAdd, Nat.reduceEqDiff, Nat.reduceLeDiff, true_and, src_get, blk_get, dgm_get, blk_all, src_all, dgm_all, List.length_map, len_row, one_row, List.drop_zero]
  refine sC.of en9 (hR.on _).here (by rfl) ?_
  simp only [go_sem, Nat.reduceAdd, Nat.reduceEqDiff, Nat.reduceLeDiff, true_and, src_get, blk_get, dgm_get, blk_all, src_all, dgm_all, List.length_map, len_row, one_row, List.drop_zero]
  refine hK3 _ _ ?_; try clear hK3 K3
  conv => enter [5]; simp only [setL_cons, setL_nil, List.set_cons_zero, List.set_cons_succ]
  refine AW.cond rfl (fun hc15 => ?_) (fun hc15 => ?_)
  · skip
    exact absurd hc15 (by simp)
  · skip
    refine AW.skip ?_
    refine hK2 _ _ ?_; try clear hK2 K2
    refine AW.regl false [4] (by rfl) fun K4 hK4 => ?_ -- region 3
    simp only [go_sem, Nat.reduceAdd, Nat.reduceEqDiff, Nat.reduceLeDiff, true_and, src_get, blk_get, dgm_get, blk_all, src_all, dgm_all, List.length_map, len_row, one_row, List.drop_zero]
    refine sC.of en68 (cloneD_nil.on _).here (by rfl) ?_
    simp only [go_sem, Nat.reduceAdd, Nat.reduceEqDiff, Nat.reduceLeDiff, true_and, src_get, blk_get, dgm_get, blk_all, src_all, dgm_all, List.length_map, len_row, one_row, List.drop_zero]
    refine hK4 _ _ ?_; try clear hK4 K4
    conv => enter [5]; simp only [setL_cons, setL_nil, List.set_cons_zero, List.set_cons_succ, upd_none, upd_at]
    refine AW.seq_k fun K5 hK5 => ?_
    refine AW.regl false [22, 23, 24] (by rfl) fun K6 hK6 => ?_ -- region 4
    simp only [go_sem, Nat.reduceAdd, Nat.reduceEqDiff, Nat.reduceLeDiff, true_and, src_get, blk_get, dgm_get, blk_all, src_all, dgm_all, List.length_map, len_row, one_row, List.drop_zero]
    refine hK6 _ _ ?_; try clear hK6 K6
    conv => enter [5]; simp only [setL_cons, setL_nil, List.set_cons_zero, List.set_cons_succ]
    refine AW.block ?_
    refine AW.loop_wk (α := Nat) (fun i => [.any, (.ref σ.length 0), (.ref (σ.length + 1) 0), .any, (.ref (σ.length + 2) 0), .any, .any, .any, .any, .any, .any, .any, .any, .any, .any, .any, .any, .any, .any, .any, .any, .any, (.nilsl), (i64 0), (i64 (i : Nat)), .any, .any, .any, .any, .any, .any, .any, .any, .any, .any, .any, .any, .any, .any, .any, .any, .any, .any, .any, .any, .any, .any, .any, .any, .any, .any, .any, .any, .any, .any, .any, .any, .any, .any, .any, .any, .any, .any, .any, .any, .any, .any, .any, .any, .any, .any, .any, .any, .any, .any, .any]) (fun i => σ ++ [.cells [.nilsl], .cells [.nilsl], .cells [.nilsl]]) (fun i => i) (fun i => True) 0 ?_ ?_
    · exact ⟨trivial, by simp [Wk], rfl⟩
    · intro i _
      refine AW.regl false [25] (by rfl) fun K7 hK7 => ?_ -- region 5
      simp only [go_sem, Nat.reduceAdd, Nat.reduceEqDiff, Nat.reduceLeDiff, true_and, src_get, blk_get, dgm_get, blk_all, src_all, dgm_all, List.length_map, len_row, one_row, List.drop_zero]
      refine hK7 _ _ ?_; try clear hK7 K7
      conv => enter [5]; simp only [setL_cons, setL_nil, List.set_cons_zero, List.set_cons_succ]
      refine AW.seq_k fun K8 hK8 => ?_
      refine AW.cond rfl (fun hc25 => ?_) (fun hc25 => ?_)
      · skip
        exact absurd hc25 (by simp; try omega)
      · skip
        refine AW.exit ?_
        refine hK5 _ _ ?_; try clear hK5 K5
        refine AW.regl false [3] (by rfl) fun K9 hK9 => ?_ -- region 20
        simp only [go_sem, Nat.reduceAdd, Nat.reduceEqDiff, Nat.reduceLeDiff, true_and, src_get, blk_get, dgm_get, blk_all, src_all, dgm_all, List.length_map, len_row, one_row, List.drop_zero]
        refine hK9 _ _ ?_; try clear hK9 K9
        conv => enter [5]; simp only [setL_cons, setL_nil, List.set_cons_zero, List.set_cons_succ]
        refine AW.ret ⟨.inr rfl, _, ret_ct (v := .agg [.nilsl]) rfl (by simp only [go_sem, List.append_assoc, List.cons_append, List.nil_append]) rfl, by simp, ?_⟩ -- return 1
        exact .keep rfl
end Gr
end Go.Proofs.Tryd
/-! What places say. -/
namespace Go.Proofs.Tryd
set_option linter.unusedSimpArgs false
set_option linter.unusedVariables false
open Go Go.Proofs.Ev
namespace Gr
theorem edsF_own (l : List Blk) : ∀ k, edsF k (l.map Blk.own) = edsF k l := by
  induction l with
  | nil => exact fun _ => rfl
  | cons b l ih =>
    intro k
    rw [List.map_cons, edsF, edsF, ih (k + 1)]
    rfl
theorem cols_good {d : Dgm} {c : List Nat} (h : cols d = some c) : c.length = d.blocks.length ∧ ∀ e ∈ edsF 0 d.blocks, rel c e = false := by
  have := colsGo_good _ _ _ 0 (fun x hx => by have := List.eq_of_mem_replicate hx; omega) h
  exact ⟨by simpa using this.1, this.2.2⟩
/-- Each block to the right of those on which it hangs. -/
theorem right_of {d : Dgm} {c : List Nat} (h : cols d = some c) {i : Nat} {s : Src} (hi : i < d.blocks.length) (h4 : ¬ d.blocks[i].kind = 4) (hs : s ∈ d.blocks[i].src) (hp : s.block ≥ 0) (hlt : s.block < d.blocks.length) : c.getD s.block.toNat 0 < c.getD i 0 := by
  obtain ⟨h1, h2⟩ := cols_good h
  have := h2 _ (eds_mem hi h4 hs hp)
  simp only [rel, Bool.and_eq_false_iff, decide_eq_false_iff_not, h1] at this
  rcases this with h | h
  · exact absurd hlt h
  · omega
theorem count_take {c : List Nat} {j k : Nat} (hjk : j < k) (hk : k < c.length) (h : c.getD j 0 = c.getD k 0) : (c.take j).count (c.getD j 0) < (c.take k).count (c.getD k 0) := by
  have h1 : c.take (j + 1) = c.take j ++ [c.getD j 0] := by
    rw [List.take_succ_eq_append_getElem (by omega)]
    simp [List.getD_eq_getElem?_getD, show j < c.length by omega]
  have h2 : (c.take (j + 1)).count (c.getD k 0) ≤ (c.take k).count (c.getD k 0) := by
    have : c.take (j + 1) = (c.take k).take (j + 1) := by rw [List.take_take, Nat.min_eq_left (by omega)]
    rw [this]
    exact List.Sublist.count_le _ (List.take_sublist _ _)
  rw [h1, List.count_append, h] at h2
  simp only [List.count_singleton_self] at h2
  rw [h]
  omega
end Gr
end Go.Proofs.Tryd
/-! The law GridApart. -/
namespace Go.Proofs.Tryd
set_option linter.unusedSimpArgs false
set_option linter.unusedVariables false
open Go Go.Proofs.Ev
namespace Gr
theorem plL_len : ∀ {ds g : List Dgm}, plL ds = some g → g.length = ds.length
  | [], g, h => by cases h; rfl
  | d :: ds, g, h => by
    rw [plL] at h
    cases hc : cols d with
    | none => rw [hc] at h; cases h
    | some c =>
      rw [hc] at h
      obtain ⟨g', hg, rfl⟩ := Option.map_eq_some_iff.1 h
      simp [plL_len hg]
theorem plL_at {d' : Dgm} : ∀ (ds g : List Dgm) (i : Nat), plL ds = some g → ds[i]? = some d' → ∃ c, cols d' = some c ∧ g[i]? = some (plD d' c)
  | [], _, _, _, h => by simp at h
  | d :: ds, g, i, h, hi => by
    rw [plL] at h
    cases hc : cols d with
    | none => rw [hc] at h; cases h
    | some c =>
      rw [hc] at h
      obtain ⟨g', hg, rfl⟩ := Option.map_eq_some_iff.1 h
      cases i with
      | zero =>
        simp only [List.getElem?_cons_zero, Option.some.injEq] at hi
        subst hi
        exact ⟨c, hc, rfl⟩
      | succ i =>
        rw [List.getElem?_cons_succ] at hi ⊢
        exact plL_at ds g' i hg hi
theorem plD_len (d : Dgm) (c : List Nat) : (plD d.own c).blocks.length = d.blocks.length := by
  rw [plD, plA_len]
  simp [Dgm.own]
theorem plD_blk {d : Dgm} {c : List Nat} {k : Nat} {b : Blk} (h : d.blocks[k]? = some b) : ∃ bk : Blk, ((plD d.own c).blocks.map Blk.enc)[k]? = some bk.enc ∧ bk.x = (c.getD k 0 : Nat) ∧ bk.y = ((c.take k).count (c.getD k 0) : Nat) := by
  obtain ⟨hk, rfl⟩ := List.getElem?_eq_some_iff.1 h
  refine ⟨setY (setX d.blocks[k].own (c.getD k 0 : Nat)) ((c.take k).count (c.getD k 0) : Nat), ?_, rfl, rfl⟩
  rw [List.getElem?_map, plD, plA_get]
  simp [Dgm.own, hk]
theorem rblk_box (b : Blk) (l : List AV) (h : l.length = 7) : b.enc.cells ++ List.drop b.enc.cells.length l = b.enc.cells := by
  rw [blk_len, List.drop_of_length_le (by omega), List.append_nil]
theorem right_src {f : FileM} (h : f.right = true) {d : Dgm} {b : Blk} {s : Src} (hd : d ∈ f.ds) (hb : b ∈ d.blocks) (hs : s ∈ b.src) (hp : s.block ≥ 0) : s.block < d.blocks.length := by
  have h1 : f.diagram d = true := by
    simp only [FileM.right, Bool.and_eq_true, Bool.not_eq_true', List.any_eq_false] at h
    simpa using h.2 d hd
  have h2 : f.block d b = true := by
    simp only [FileM.diagram, Bool.and_eq_true, Bool.not_eq_true', List.any_eq_false] at h1
    simpa using h1.2 b hb
  have h3 : f.source d s = true := by
    unfold FileM.block at h2
    split at h2
    · cases h2
    · split at h2
      · cases h2
      · simp only [Bool.and_eq_true, Bool.not_eq_true', List.any_eq_false] at h2
        simpa using h2.2 s hs
  unfold FileM.source at h3
  split at h3
  · split at h3
    · cases h3
    · rename_i hn
      simp at hn
      exact hn.2
  · rename_i hn
    simp at hn
    omega
theorem src_at {p d : Dgm} {c : List Nat} {s : Int} (hpk : ∀ k b, d.blocks[k]? = some b → ∃ bk : Blk, (p.blocks.map Blk.enc)[k]? = some bk.enc ∧ bk.x = (c.getD k 0 : Nat) ∧ bk.y = ((c.take k).count (c.getD k 0) : Nat)) (h : s ≥ 0) (hlt : s < d.blocks.length) :
    ∃ bm : Blk, aAt 7 (rowAV 7 p.nlB (p.blocks.map Blk.enc)) (.val (.int .i64 s)) = some (.er bm.enc.cells) ∧ bm.x = (c.getD s.toNat 0 : Nat) := by
  obtain ⟨m, rfl⟩ := Int.eq_ofNat_of_zero_le h
  obtain ⟨bm, h1, h2, _⟩ := hpk m _ (List.getElem?_eq_getElem (by omega))
  exact ⟨bm, at_row h1, h2⟩
theorem right_own {d : Dgm} {c : List Nat} {k : Nat} {b : Blk} {s : Src} (h : cols d.own = some c) (hk : d.blocks[k]? = some b) (h4 : b.kind ≠ 4) (hs : s ∈ b.src) (hp : s.block ≥ 0) (hlt : s.block < d.blocks.length) : c.getD s.block.toNat 0 < c.getD k 0 := by
  obtain ⟨hk1, rfl⟩ := List.getElem?_eq_some_iff.1 hk
  have e : d.own.blocks = d.blocks.map Blk.own := rfl
  have hk2 : k < d.own.blocks.length := by rw [e, List.length_map]; exact hk1
  have e2 : d.own.blocks[k] = d.blocks[k].own := by simp [e]
  exact right_of h hk2 (by rw [e2]; exact h4) (by rw [e2]; exact hs) hp (by rw [e, List.length_map]; exact hlt)
set_option maxRecDepth 100000 in
theorem gridApart_out (f : FileM) (hf : f.ok) (hg : (f.great || !f.rright) = true) : APure prog GK 7 [f.enc] (.val (.bool true)) := by
  refine APure.of func7 rfl fun σ => ?_
  simp only [ntmps7, List.length_cons, List.length_nil, Nat.reduceAdd, Nat.reduceSub, List.replicate_succ, List.replicate_zero, List.cons_append, List.nil_append]
  refine AW.regl false [1, 2] (by rfl) fun K1 hK1 => ?_ -- region 0
  simp only [go_sem, Nat.reduceAdd, Nat.reduceEqDiff, Nat.reduceLeDiff, true_and, src_get, blk_get, dgm_get, blk_all, src_all, dgm_all, List.length_map, len_row, one_row, List.drop_zero, file_all, file_get, rfile_get, List.length_map, file_len]
  refine hK1 _ _ ?_; try clear hK1 K1
  conv => enter [5]; simp only [setL_cons, setL_nil, List.set_cons_zero, List.set_cons_succ]
  refine AW.seq_k fun K2 hK2 => ?_
  refine AW.regtf false 18 (.val (.bool (f.great || !f.rright))) (by rfl) ?_ ?_ -- region 1
  · skip
    cases h13 : (f.great)
    · skip
      simp only [go_sem, Nat.reduceAdd, Nat.reduceEqDiff, Nat.reduceLeDiff, true_and, src_get, blk_get, dgm_get, blk_all, src_all, dgm_all, List.length_map, len_row, one_row, List.drop_zero, file_all, file_get, rfile_get, List.length_map, file_len, h13]
      refine sC.of en24 ((great_calls f hf).on _).here (by rfl) ?_
      simp only [go_sem, Nat.reduceAdd, Nat.reduceEqDiff, Nat.reduceLeDiff, true_and, src_get, blk_get, dgm_get, blk_all, src_all, dgm_all, List.length_map, len_row, one_row, List.drop_zero, file_all, file_get, rfile_get, List.length_map, file_len, h13]
      refine sC.of en26 ((rright_calls f (small_of h13)).on _).here (by rfl) ?_
      simp only [go_sem, Nat.reduceAdd, Nat.reduceEqDiff, Nat.reduceLeDiff, true_and, src_get, blk_get, dgm_get, blk_all, src_all, dgm_all, List.length_map, len_row, one_row, List.drop_zero, file_all, file_get, rfile_get, List.length_map, file_len, h13]
      try simp [upd_at, h13, src_get, blk_get, dgm_get, blk_all, src_all, dgm_all, List.length_map, len_row, one_row, List.drop_zero, file_all, file_get, rfile_get, List.length_map, file_len]
    · skip
      simp only [go_sem, Nat.reduceAdd, Nat.reduceEqDiff, Nat.reduceLeDiff, true_and, src_get, blk_get, dgm_get, blk_all, src_all, dgm_all, List.length_map, len_row, one_row, List.drop_zero, file_all, file_get, rfile_get, List.length_map, file_len, h13]
      refine sC.of en24 ((great_calls f hf).on _).here (by rfl) ?_
      simp only [go_sem, Nat.reduceAdd, Nat.reduceEqDiff, Nat.reduceLeDiff, true_and, src_get, blk_get, dgm_get, blk_all, src_all, dgm_all, List.length_map, len_row, one_row, List.drop_zero, file_all, file_get, rfile_get, List.length_map, file_len, h13]
      try simp [upd_at, h13, src_get, blk_get, dgm_get, blk_all, src_all, dgm_all, List.length_map, len_row, one_row, List.drop_zero, file_all, file_get, rfile_get, List.length_map, file_len]
  conv => enter [5]; simp only [List.set_cons_zero, List.set_cons_succ]
  refine AW.cond rfl (fun hc18 => ?_) (fun hc18 => ?_)
  · skip
    refine AW.regl false [2] (by rfl) fun K4 hK4 => ?_ -- region 2
    simp only [go_sem, Nat.reduceAdd, Nat.reduceEqDiff, Nat.reduceLeDiff, true_and, src_get, blk_get, dgm_get, blk_all, src_all, dgm_all, List.length_map, len_row, one_row, List.drop_zero, file_all, file_get, rfile_get, List.length_map, file_len]
    refine hK4 _ _ ?_; try clear hK4 K4
    conv => enter [5]; simp only [setL_cons, setL_nil, List.set_cons_zero, List.set_cons_succ]
    refine AW.ret ⟨.inr rfl, _, rfl, by simp, ?_⟩ -- return 1
    exact .keep rfl
  · skip
    exact absurd hg (by rw [hc18]; simp)

set_option maxRecDepth 100000 in
theorem gridApart_none (f : FileM) (hf : f.ok) (hg : f.great = false) (hr : f.rright = true) (hP : APure prog GK 38 [f.own.enc] (.tup [.agg [.nilsl], i64 9])) : APure prog GK 7 [f.enc] (.val (.bool true)) := by
  refine APure.of func7 rfl fun σ => ?_
  simp only [ntmps7, List.length_cons, List.length_nil, Nat.reduceAdd, Nat.reduceSub, List.replicate_succ, List.replicate_zero, List.cons_append, List.nil_append]
  have hfs := small_of hg
  refine AW.regl false [1, 2] (by rfl) fun K1 hK1 => ?_ -- region 0
  simp only [go_sem, Nat.reduceAdd, Nat.reduceEqDiff, Nat.reduceLeDiff, true_and, src_get, blk_get, dgm_get, blk_all, src_all, dgm_all, List.length_map, len_row, one_row, List.drop_zero, file_all, file_get, rfile_get, List.length_map, file_len]
  refine hK1 _ _ ?_; try clear hK1 K1
  conv => enter [5]; simp only [setL_cons, setL_nil, List.set_cons_zero, List.set_cons_succ]
  refine AW.seq_k fun K2 hK2 => ?_
  refine AW.regtf false 18 (.val (.bool (f.great || !f.rright))) (by rfl) ?_ ?_ -- region 1
  · skip
    cases h13 : (f.great)
    · skip
      simp only [go_sem, Nat.reduceAdd, Nat.reduceEqDiff, Nat.reduceLeDiff, true_and, src_get, blk_get, dgm_get, blk_all, src_all, dgm_all, List.length_map, len_row, one_row, List.drop_zero, file_all, file_get, rfile_get, List.length_map, file_len, h13]
      refine sC.of en24 ((great_calls f hf).on _).here (by rfl) ?_
      simp only [go_sem, Nat.reduceAdd, Nat.reduceEqDiff, Nat.reduceLeDiff, true_and, src_get, blk_get, dgm_get, blk_all, src_all, dgm_all, List.length_map, len_row, one_row, List.drop_zero, file_all, file_get, rfile_get, List.length_map, file_len, h13]
      refine sC.of en26 ((rright_calls f (small_of h13)).on _).here (by rfl) ?_
      simp only [go_sem, Nat.reduceAdd, Nat.reduceEqDiff, Nat.reduceLeDiff, true_and, src_get, blk_get, dgm_get, blk_all, src_all, dgm_all, List.length_map, len_row, one_row, List.drop_zero, file_all, file_get, rfile_get, List.length_map, file_len, h13]
      try simp [upd_at, h13, src_get, blk_get, dgm_get, blk_all, src_all, dgm_all, List.length_map, len_row, one_row, List.drop_zero, file_all, file_get, rfile_get, List.length_map, file_len]
    · skip
      simp only [go_sem, Nat.reduceAdd, Nat.reduceEqDiff, Nat.reduceLeDiff, true_and, src_get, blk_get, dgm_get, blk_all, src_all, dgm_all, List.length_map, len_row, one_row, List.drop_zero, file_all, file_get, rfile_get, List.length_map, file_len, h13]
      refine sC.of en24 ((great_calls f hf).on _).here (by rfl) ?_
      simp only [go_sem, Nat.reduceAdd, Nat.reduceEqDiff, Nat.reduceLeDiff, true_and, src_get, blk_get, dgm_get, blk_all, src_all, dgm_all, List.length_map, len_row, one_row, List.drop_zero, file_all, file_get, rfile_get, List.length_map, file_len, h13]
      try simp [upd_at, h13, src_get, blk_get, dgm_get, blk_all, src_all, dgm_all, List.length_map, len_row, one_row, List.drop_zero, file_all, file_get, rfile_get, List.length_map, file_len]
  conv => enter [5]; simp only [List.set_cons_zero, List.set_cons_succ]
  refine AW.cond rfl (fun hc18 => ?_) (fun hc18 => ?_)
  · skip
    exact absurd hc18 (by simp [hg, hr])
  · skip
    refine AW.skip ?_
    refine hK2 _ _ ?_; try clear hK2 K2
    refine AW.regl false [3, 4] (by rfl) fun K4 hK4 => ?_ -- region 3
    simp only [go_sem, Nat.reduceAdd, Nat.reduceEqDiff, Nat.reduceLeDiff, true_and, src_get, blk_get, dgm_get, blk_all, src_all, dgm_all, List.length_map, len_row, one_row, List.drop_zero, file_all, file_get, rfile_get, List.length_map, file_len, aExtract, List.getElem?_cons_zero, List.getElem?_cons_succ, one_row, List.all_cons, List.all_nil, Bool.and_true]
    refine sC.of en25 ((own_calls f hfs).on _).here (by rfl) ?_
    simp only [go_sem, Nat.reduceAdd, Nat.reduceEqDiff, Nat.reduceLeDiff, true_and, src_get, blk_get, dgm_get, blk_all, src_all, dgm_all, List.length_map, len_row, one_row, List.drop_zero, file_all, file_get, rfile_get, List.length_map, file_len, aExtract, List.getElem?_cons_zero, List.getElem?_cons_succ, one_row, List.all_cons, List.all_nil, Bool.and_true]
    refine sC.of en38 (hP.on _).here (by rfl) ?_
    simp only [go_sem, Nat.reduceAdd, Nat.reduceEqDiff, Nat.reduceLeDiff, true_and, src_get, blk_get, dgm_get, blk_all, src_all, dgm_all, List.length_map, len_row, one_row, List.drop_zero, file_all, file_get, rfile_get, List.length_map, file_len, aExtract, List.getElem?_cons_zero, List.getElem?_cons_succ, one_row, List.all_cons, List.all_nil, Bool.and_true]
    refine hK4 _ _ ?_; try clear hK4 K4
    conv => enter [5]; simp only [setL_cons, setL_nil, List.set_cons_zero, List.set_cons_succ]
    refine AW.seq_k fun K5 hK5 => ?_
    refine AW.regl false [26] (by rfl) fun K6 hK6 => ?_ -- region 4
    simp only [go_sem, Nat.reduceAdd, Nat.reduceEqDiff, Nat.reduceLeDiff, true_and, src_get, blk_get, dgm_get, blk_all, src_all, dgm_all, List.length_map, len_row, one_row, List.drop_zero, file_all, file_get, rfile_get, List.length_map, file_len]
    refine hK6 _ _ ?_; try clear hK6 K6
    conv => enter [5]; simp only [setL_cons, setL_nil, List.set_cons_zero, List.set_cons_succ]
    refine AW.cond rfl (fun hc26 => ?_) (fun hc26 => ?_)
    · skip
      refine AW.regtf false 2 (.val (.bool (true))) (by rfl) ?_ ?_ -- region 5
      · skip
        simp only [go_sem, Nat.reduceAdd, Nat.reduceEqDiff, Nat.reduceLeDiff, true_and, src_get, blk_get, dgm_get, blk_all, src_all, dgm_all, List.length_map, len_row, one_row, List.drop_zero, file_all, file_get, rfile_get, List.length_map, file_len, beq_self_eq_true]
        refine sC.of en39 (gawake_calls.on _).here (by rfl) ?_
        simp only [go_sem, Nat.reduceAdd, Nat.reduceEqDiff, Nat.reduceLeDiff, true_and, src_get, blk_get, dgm_get, blk_all, src_all, dgm_all, List.length_map, len_row, one_row, List.drop_zero, file_all, file_get, rfile_get, List.length_map, file_len, beq_self_eq_true]
        try simp [upd_at, src_get, blk_get, dgm_get, blk_all, src_all, dgm_all, List.length_map, len_row, one_row, List.drop_zero, file_all, file_get, rfile_get, List.length_map, file_len, beq_self_eq_true]
      conv => enter [5]; simp only [List.set_cons_zero, List.set_cons_succ]
      refine AW.ret ⟨.inr rfl, _, rfl, by simp, ?_⟩ -- return 1
      exact .keep rfl
    · skip
      exact absurd hc26 (by simp)

set_option maxRecDepth 100000 in
set_option maxHeartbeats 1000000 in
theorem gridApart_some (f : FileM) (hf : f.ok) (hg : f.great = false) (hr : f.rright = true) (hn : f.fit) (g : List Dgm) (hpl : plL (f.ds.map Dgm.own) = some g) (hP : APure prog GK 38 [f.own.enc] (.tup [.agg [rowAV 4 true (g.map Dgm.enc)], i64 0])) : APure prog GK 7 [f.enc] (.val (.bool true)) := by
  refine APure.of func7 rfl fun σ => ?_
  simp only [ntmps7, List.length_cons, List.length_nil, Nat.reduceAdd, Nat.reduceSub, List.replicate_succ, List.replicate_zero, List.cons_append, List.nil_append]
  have hfs := small_of hg
  have hds : f.ds.length ≤ maxLen := hf.1
  have hri : f.right = true := by rw [← rright_eq f hfs hn]; exact hr
  have hgl : g.length = f.ds.length := by have := plL_len hpl; simpa using this
  refine AW.regl false [1, 2] (by rfl) fun K1 hK1 => ?_ -- region 0
  simp only [go_sem, Nat.reduceAdd, Nat.reduceEqDiff, Nat.reduceLeDiff, true_and, src_get, blk_get, dgm_get, blk_all, src_all, dgm_all, List.length_map, len_row, one_row, List.drop_zero, file_all, file_get, rfile_get, List.length_map, file_len]
  refine hK1 _ _ ?_; try clear hK1 K1
  conv => enter [5]; simp only [setL_cons, setL_nil, List.set_cons_zero, List.set_cons_succ]
  refine AW.seq_k fun K2 hK2 => ?_
  refine AW.regtf false 18 (.val (.bool (f.great || !f.rright))) (by rfl) ?_ ?_ -- region 1
  · skip
    cases h13 : (f.great)
    · skip
      simp only [go_sem, Nat.reduceAdd, Nat.reduceEqDiff, Nat.reduceLeDiff, true_and, src_get, blk_get, dgm_get, blk_all, src_all, dgm_all, List.length_map, len_row, one_row, List.drop_zero, file_all, file_get, rfile_get, List.length_map, file_len, h13]
      refine sC.of en24 ((great_calls f hf).on _).here (by rfl) ?_
      simp only [go_sem, Nat.reduceAdd, Nat.reduceEqDiff, Nat.reduceLeDiff, true_and, src_get, blk_get, dgm_get, blk_all, src_all, dgm_all, List.length_map, len_row, one_row, List.drop_zero, file_all, file_get, rfile_get, List.length_map, file_len, h13]
      refine sC.of en26 ((rright_calls f (small_of h13)).on _).here (by rfl) ?_
      simp only [go_sem, Nat.reduceAdd, Nat.reduceEqDiff, Nat.reduceLeDiff, true_and, src_get, blk_get, dgm_get, blk_all, src_all, dgm_all, List.length_map, len_row, one_row, List.drop_zero, file_all, file_get, rfile_get, List.length_map, file_len, h13]
      try simp [upd_at, h13, src_get, blk_get, dgm_get, blk_all, src_all, dgm_all, List.length_map, len_row, one_row, List.drop_zero, file_all, file_get, rfile_get, List.length_map, file_len]
    · skip
      simp only [go_sem, Nat.reduceAdd, Nat.reduceEqDiff, Nat.reduceLeDiff, true_and, src_get, blk_get, dgm_get, blk_all, src_all, dgm_all, List.length_map, len_row, one_row, List.drop_zero, file_all, file_get, rfile_get, List.length_map, file_len, h13]
      refine sC.of en24 ((great_calls f hf).on _).here (by rfl) ?_
      simp only [go_sem, Nat.reduceAdd, Nat.reduceEqDiff, Nat.reduceLeDiff, true_and, src_get, blk_get, dgm_get, blk_all, src_all, dgm_all, List.length_map, len_row, one_row, List.drop_zero, file_all, file_get, rfile_get, List.length_map, file_len, h13]
      try simp [upd_at, h13, src_get, blk_get, dgm_get, blk_all, src_all, dgm_all, List.length_map, len_row, one_row, List.drop_zero, file_all, file_get, rfile_get, List.length_map, file_len]
  conv => enter [5]; simp only [List.set_cons_zero, List.set_cons_succ]
  refine AW.cond rfl (fun hc18 => ?_) (fun hc18 => ?_)
  · skip
    exact absurd hc18 (by simp [hg, hr])
  · skip
    refine AW.skip ?_
    refine hK2 _ _ ?_; try clear hK2 K2
    refine AW.regl false [3, 4] (by rfl) fun K4 hK4 => ?_ -- region 3
    simp only [go_sem, Nat.reduceAdd, Nat.reduceEqDiff, Nat.reduceLeDiff, true_and, src_get, blk_get, dgm_get, blk_all, src_all, dgm_all, List.length_map, len_row, one_row, List.drop_zero, file_all, file_get, rfile_get, List.length_map, file_len, aExtract, List.getElem?_cons_zero, List.getElem?_cons_succ, one_row, List.all_cons, List.all_nil, Bool.and_true]
    refine sC.of en25 ((own_calls f hfs).on _).here (by rfl) ?_
    simp only [go_sem, Nat.reduceAdd, Nat.reduceEqDiff, Nat.reduceLeDiff, true_and, src_get, blk_get, dgm_get, blk_all, src_all, dgm_all, List.length_map, len_row, one_row, List.drop_zero, file_all, file_get, rfile_get, List.length_map, file_len, aExtract, List.getElem?_cons_zero, List.getElem?_cons_succ, one_row, List.all_cons, List.all_nil, Bool.and_true]
    refine sC.of en38 (hP.on _).here (by rfl) ?_
    simp only [go_sem, Nat.reduceAdd, Nat.reduceEqDiff, Nat.reduceLeDiff, true_and, src_get, blk_get, dgm_get, blk_all, src_all, dgm_all, List.length_map, len_row, one_row, List.drop_zero, file_all, file_get, rfile_get, List.length_map, file_len, aExtract, List.getElem?_cons_zero, List.getElem?_cons_succ, one_row, List.all_cons, List.all_nil, Bool.and_true]
    refine hK4 _ _ ?_; try clear hK4 K4
    conv => enter [5]; simp only [setL_cons, setL_nil, List.set_cons_zero, List.set_cons_succ]
    refine AW.seq_k fun K5 hK5 => ?_
    refine AW.regl false [26] (by rfl) fun K6 hK6 => ?_ -- region 4
    simp only [go_sem, Nat.reduceAdd, Nat.reduceEqDiff, Nat.reduceLeDiff, true_and, src_get, blk_get, dgm_get, blk_all, src_all, dgm_all, List.length_map, len_row, one_row, List.drop_zero, file_all, file_get, rfile_get, List.length_map, file_len]
    refine hK6 _ _ ?_; try clear hK6 K6
    conv => enter [5]; simp only [setL_cons, setL_nil, List.set_cons_zero, List.set_cons_succ]
    refine AW.cond rfl (fun hc26 => ?_) (fun hc26 => ?_)
    · skip
      exact absurd hc26 (by simp)
    · skip
      refine AW.skip ?_
      refine hK5 _ _ ?_; try clear hK5 K5
      refine AW.seq_k fun K7 hK7 => ?_
      refine AW.regl false [44] (by rfl) fun K8 hK8 => ?_ -- region 6
      simp only [go_sem, Nat.reduceAdd, Nat.reduceEqDiff, Nat.reduceLeDiff, true_and, src_get, blk_get, dgm_get, blk_all, src_all, dgm_all, List.length_map, len_row, one_row, List.drop_zero, file_all, file_get, rfile_get, List.length_map, file_len, FileM.enc]
      refine hK8 _ _ ?_; try clear hK8 K8
      conv => enter [5]; simp only [setL_cons, setL_nil, List.set_cons_zero, List.set_cons_succ]
      refine AW.cond rfl (fun hc44 => ?_) (fun hc44 => ?_)
      · skip
        exact absurd hc44 (by simp [hgl])
      · skip
        refine AW.skip ?_
        refine hK7 _ _ ?_; try clear hK7 K7
        refine AW.seq_k fun K9 hK9 => ?_
        refine AW.regl false [5] (by rfl) fun K10 hK10 => ?_ -- region 8
        simp only [go_sem, Nat.reduceAdd, Nat.reduceEqDiff, Nat.reduceLeDiff, true_and, src_get, blk_get, dgm_get, blk_all, src_all, dgm_all, List.length_map, len_row, one_row, List.drop_zero, file_all, file_get, rfile_get, List.length_map, file_len]
        refine hK10 _ _ ?_; try clear hK10 K10
        conv => enter [5]; simp only [setL_cons, setL_nil, List.set_cons_zero, List.set_cons_succ]
        refine AW.block ?_
        refine AW.loop_wk (α := Nat) (fun i => [.any, (.ref σ.length 0), .any, (.ref (σ.length + 1) 0), .any, (.val (.int .i64 ((i : Nat) : Int))), .any, .any, .any, .any, .any, .any, .any, .any, .any, .any, .any, .any, .any, .any, .any, .any, .any, .any, .any, .any, .any, .any, .any, .any, .any, .any, .any, .any, .any, .any, .any, .any, .any, .any, .any, .any, .any, .any, .any, .any, .any, .any, .any, .any, .any, .any, .any, .any, .any, .any, .any, .any, .any, .any, .any, .any, .any, .any, .any, .any, .any, .any, .any, .any, .any, .any, .any, .any, .any, .any, .any, .any, .any, .any, .any, .any, .any, .any, .any, .any, .any, .any, .any, .any, .any, .any, .any, .any, .any, .any, .any, .any, .any, .any, .any, .any, .any, .any, .any, .any, .any, .any, .any, .any, .any, .any, .any, .any, .any, .any, .any, .any, .any, .any, .any, .any, .any, .any, .any, .any, .any, .any, .any, .any, .any, .any, .any, .any, .any, .any, .any, .any, .any, .any, .any, .any, .any, .any, .any, .any]) (fun i => σ ++ [.cells (FileM.enc f).cells, .cells [rowAV 4 true (g.map Dgm.enc)]]) (fun i => f.ds.length - i) (fun i => i ≤ f.ds.length) 0 ?_ ?_
        · exact ⟨Nat.zero_le _, by simp [Wk], rfl⟩
        · intro i hi
          refine AW.seq_k fun K11 hK11 => ?_
          refine AW.regl false [49] (by rfl) fun K12 hK12 => ?_ -- region 9
          simp only [go_sem, Nat.reduceAdd, Nat.reduceEqDiff, Nat.reduceLeDiff, true_and, src_get, blk_get, dgm_get, blk_all, src_all, dgm_all, List.length_map, len_row, one_row, List.drop_zero, file_all, file_get, rfile_get, List.length_map, file_len, FileM.enc]
          refine hK12 _ _ ?_; try clear hK12 K12
          conv => enter [5]; simp only [setL_cons, setL_nil, List.set_cons_zero, List.set_cons_succ]
          refine AW.cond rfl (fun hc49 => ?_) (fun hc49 => ?_)
          · skip
            have hi1 : i < f.ds.length := by simpa using hc49
            obtain ⟨d, hdd⟩ : ∃ z, z = f.ds[i] := ⟨_, rfl⟩
            have hfd : f.ds[i]? = some d := by rw [hdd]; exact List.getElem?_eq_getElem hi1
            have hdm : d ∈ f.ds := List.mem_of_getElem? hfd
            obtain ⟨c, hcc, hgc⟩ := plL_at (d' := d.own) _ _ i hpl (by rw [List.getElem?_map, hfd]; rfl)
            have hfx : (f.ds.map Dgm.enc)[i]? = some d.enc := by rw [List.getElem?_map, hfd]; rfl
            obtain ⟨p, hp⟩ : ∃ z, z = plD d.own c := ⟨_, rfl⟩
            rw [← hp] at hgc
            have hgx : (g.map Dgm.enc)[i]? = some p.enc := by rw [List.getElem?_map, hgc]; rfl
            have hpn : p.blocks.length = d.blocks.length := by rw [hp]; exact plD_len d c
            have hpk : ∀ k b, d.blocks[k]? = some b → ∃ bk : Blk, (p.blocks.map Blk.enc)[k]? = some bk.enc ∧ bk.x = (c.getD k 0 : Nat) ∧ bk.y = ((c.take k).count (c.getD k 0) : Nat) := by rw [hp]; exact fun k b h => plD_blk h
            have hpm0 : p.blocks.length ≤ maxLen := by rw [hpn]; exact (hf.2 d hdm).2.2.2.1
            have hcl : c.length = d.blocks.length := by have h := (cols_good hcc).1; simpa [Dgm.own] using h
            refine AW.skip ?_
            refine hK11 _ _ ?_; try clear hK11 K11
            refine AW.seq_k fun K13 hK13 => ?_
            refine AW.block ?_
            refine AW.regl false [6] (by rfl) fun K14 hK14 => ?_ -- region 11
            simp only [go_sem, Nat.reduceAdd, Nat.reduceEqDiff, Nat.reduceLeDiff, true_and, src_get, blk_get, dgm_get, blk_all, src_all, dgm_all, List.length_map, len_row, one_row, List.drop_zero, file_all, file_get, rfile_get, List.length_map, file_len, at_row hgx, dgm_cells, List.drop_succ_cons]
            refine hK14 _ _ ?_; try clear hK14 K14
            conv => enter [5]; simp only [setL_cons, setL_nil, List.set_cons_zero, List.set_cons_succ]
            refine AW.seq_k fun K15 hK15 => ?_
            refine AW.regl false [67] (by rfl) fun K16 hK16 => ?_ -- region 12
            simp only [go_sem, Nat.reduceAdd, Nat.reduceEqDiff, Nat.reduceLeDiff, true_and, src_get, blk_get, dgm_get, blk_all, src_all, dgm_all, List.length_map, len_row, one_row, List.drop_zero, file_all, file_get, rfile_get, List.length_map, file_len, at_row hfx, FileM.enc, dgm_cells, List.drop_succ_cons]
            refine hK16 _ _ ?_; try clear hK16 K16
            conv => enter [5]; simp only [setL_cons, setL_nil, List.set_cons_zero, List.set_cons_succ]
            refine AW.cond rfl (fun hc67 => ?_) (fun hc67 => ?_)
            · skip
              exact absurd hc67 (by simp [hpn])
            · skip
              refine AW.skip ?_
              refine hK15 _ _ ?_; try clear hK15 K15
              refine AW.regl false [7] (by rfl) fun K17 hK17 => ?_ -- region 14
              simp only [go_sem, Nat.reduceAdd, Nat.reduceEqDiff, Nat.reduceLeDiff, true_and, src_get, blk_get, dgm_get, blk_all, src_all, dgm_all, List.length_map, len_row, one_row, List.drop_zero, file_all, file_get, rfile_get, List.length_map, file_len]
              refine hK17 _ _ ?_; try clear hK17 K17
              conv => enter [5]; simp only [setL_cons, setL_nil, List.set_cons_zero, List.set_cons_succ]
              refine AW.block ?_
              refine AW.loop_dr (α := Nat) (fun k => [.any, (.ref σ.length 0), .any, (.ref (σ.length + 1) 0), .any, (.val (.int .i64 ((i : Nat) : Int))), (rowAV 7 p.nlB (p.blocks.map Blk.enc)), (.val (.int .i64 ((k : Nat) : Int))), .any, .any, .any, .any, .any, .any, .any, .any, .any, .any, .any, .any, .any, .any, .any, .any, .any, .any, .any, .any, .any, .any, .any, .any, .any, .any, .any, .any, .any, .any, .any, .any, .any, .any, .any, .any, .any, .any, .any, .any, .any, .any, .any, .any, .any, .any, .any, .any, .any, .any, .any, .any, .any, .any, .any, .any, .any, .any, .any, .any, .any, .any, .any, .any, .any, .any, .any, .any, .any, .any, .any, .any, .any, .any, .any, .any, .any, .any, .any, .any, .any, .any, .any, .any, .any, .any, .any, .any, .any, .any, .any, .any, .any, .any, .any, .any, .any, .any, .any, .any, .any, .any, .any, .any, .any, .any, .any, .any, .any, .any, .any, .any, .any, .any, .any, .any, .any, .any, .any, .any, .any, .any, .any, .any, .any, .any, .any, .any, .any, .any, .any, .any, .any, .any, .any, .any, .any, .any]) (fun k => σ ++ [.cells (FileM.enc f).cells, .cells [rowAV 4 true (g.map Dgm.enc)]]) (fun k => p.blocks.length - k) (fun k => k ≤ p.blocks.length) 0 ?_ ?_ ?_
              · exact ⟨Nat.zero_le _, by simp [Wk], rfl⟩
              · refine fun y hy => ⟨by simp [belL, AV.bel, row_b blk_b], bel_one⟩
              · intro k hi
                refine AW.seq_k fun K18 hK18 => ?_
                refine AW.regl false [71] (by rfl) fun K19 hK19 => ?_ -- region 15
                simp only [go_sem, Nat.reduceAdd, Nat.reduceEqDiff, Nat.reduceLeDiff, true_and, src_get, blk_get, dgm_get, blk_all, src_all, dgm_all, List.length_map, len_row, one_row, List.drop_zero, file_all, file_get, rfile_get, List.length_map, file_len]
                refine hK19 _ _ ?_; try clear hK19 K19
                conv => enter [5]; simp only [setL_cons, setL_nil, List.set_cons_zero, List.set_cons_succ]
                refine AW.cond rfl (fun hc71 => ?_) (fun hc71 => ?_)
                · skip
                  have hk1 : k < p.blocks.length := by simpa using hc71
                  obtain ⟨b, hbb⟩ : ∃ z, z = d.blocks[k] := ⟨_, rfl⟩
                  have hkd : d.blocks[k]? = some b := by rw [hbb]; exact List.getElem?_eq_getElem (by omega)
                  have hdk : (d.blocks.map Blk.enc)[k]? = some b.enc := by rw [List.getElem?_map, hkd]; rfl
                  have hbm0 : b ∈ d.blocks := List.mem_of_getElem? hkd
                  have hbl : b.src.length ≤ maxLen := (hf.2 d hdm).2.2.2.2 b hbm0
                  obtain ⟨bk, hbk, hbx, hby⟩ := hpk k b hkd
                  refine AW.skip ?_
                  refine hK18 _ _ ?_; try clear hK18 K18
                  refine AW.seq_k fun K20 hK20 => ?_
                  refine AW.block ?_
                  refine AW.seq_k fun K21 hK21 => ?_
                  refine AW.regl false [8] (by rfl) fun K22 hK22 => ?_ -- region 17
                  simp only [go_sem, Nat.reduceAdd, Nat.reduceEqDiff, Nat.reduceLeDiff, true_and, src_get, blk_get, dgm_get, blk_all, src_all, dgm_all, List.length_map, len_row, one_row, List.drop_zero, file_all, file_get, rfile_get, List.length_map, file_len]
                  refine hK22 _ _ ?_; try clear hK22 K22
                  conv => enter [5]; simp only [setL_cons, setL_nil, List.set_cons_zero, List.set_cons_succ]
                  refine AW.block ?_
                  refine AW.loop_wk (α := Nat) (fun j => [.any, (.ref σ.length 0), .any, (.ref (σ.length + 1) 0), .any, (.val (.int .i64 ((i : Nat) : Int))), (rowAV 7 p.nlB (p.blocks.map Blk.enc)), (.val (.int .i64 ((k : Nat) : Int))), (.val (.int .i64 ((j : Nat) : Int))), .any, .any, .any, .any, .any, .any, .any, .any, .any, .any, .any, .any, .any, .any, .any, .any, .any, .any, .any, .any, .any, .any, .any, .any, .any, .any, .any, .any, .any, .any, .any, .any, .any, .any, .any, .any, .any, .any, .any, .any, .any, .any, .any, .any, .any, .any, .any, .any, .any, .any, .any, .any, .any, .any, .any, .any, .any, .any, .any, .any, .any, .any, .any, .any, .any, .any, .any, .any, .any, .any, .any, .any, .any, .any, .any, .any, .any, .any, .any, .any, .any, .any, .any, .any, .any, .any, .any, .any, .any, .any, .any, .any, .any, .any, .any, .any, .any, .any, .any, .any, .any, .any, .any, .any, .any, .any, .any, .any, .any, .any, .any, .any, .any, .any, .any, .any, .any, .any, .any, .any, .any, .any, .any, .any, .any, .any, .any, .any, .any, .any, .any, .any, .any, .any, .any, .any, .any]) (fun j => σ ++ [.cells (FileM.enc f).cells, .cells [rowAV 4 true (g.map Dgm.enc)]]) (fun j => k - j) (fun j => j ≤ k) 0 ?_ ?_
                  · exact ⟨Nat.zero_le _, by simp [Wk], rfl⟩
                  · intro j hi
                    refine AW.seq_k fun K23 hK23 => ?_
                    refine AW.regl false [76] (by rfl) fun K24 hK24 => ?_ -- region 18
                    simp only [go_sem, Nat.reduceAdd, Nat.reduceEqDiff, Nat.reduceLeDiff, true_and, src_get, blk_get, dgm_get, blk_all, src_all, dgm_all, List.length_map, len_row, one_row, List.drop_zero, file_all, file_get, rfile_get, List.length_map, file_len]
                    refine hK24 _ _ ?_; try clear hK24 K24
                    conv => enter [5]; simp only [setL_cons, setL_nil, List.set_cons_zero, List.set_cons_succ]
                    refine AW.cond rfl (fun hc76 => ?_) (fun hc76 => ?_)
                    · skip
                      have hj1 : j < k := by simpa using hc76
                      obtain ⟨bj0, hjd⟩ : ∃ z, d.blocks[j]? = some z := ⟨_, List.getElem?_eq_getElem (by omega)⟩
                      obtain ⟨bj, hbj, hjx, hjy⟩ := hpk j bj0 hjd
                      refine AW.skip ?_
                      refine hK23 _ _ ?_; try clear hK23 K23
                      refine AW.seq_k fun K25 hK25 => ?_
                      refine AW.block ?_
                      refine AW.regtdf mixed false 102 (.val (.bool ((bj.x == bk.x) && (bj.y == bk.y)))) (by kernel_rfl) (by rfl) ?_ ?_ -- region 20
                      · skip
                        cases h89 : ((bj.x == bk.x))
                        · skip
                          simp only [go_sem, Nat.reduceAdd, Nat.reduceEqDiff, Nat.reduceLeDiff, true_and, src_get, blk_get, dgm_get, blk_all, src_all, dgm_all, List.length_map, len_row, one_row, List.drop_zero, file_all, file_get, rfile_get, List.length_map, file_len, at_row hbj, at_row hbk, blk_cells, List.drop_succ_cons, h89]
                          try simp [upd_at, h89, src_get, blk_get, dgm_get, blk_all, src_all, dgm_all, List.length_map, len_row, one_row, List.drop_zero, file_all, file_get, rfile_get, List.length_map, file_len, at_row hbj, at_row hbk, blk_cells, List.drop_succ_cons]
                        · skip
                          simp only [go_sem, Nat.reduceAdd, Nat.reduceEqDiff, Nat.reduceLeDiff, true_and, src_get, blk_get, dgm_get, blk_all, src_all, dgm_all, List.length_map, len_row, one_row, List.drop_zero, file_all, file_get, rfile_get, List.length_map, file_len, at_row hbj, at_row hbk, blk_cells, List.drop_succ_cons, h89]
                          try simp [upd_at, h89, src_get, blk_get, dgm_get, blk_all, src_all, dgm_all, List.length_map, len_row, one_row, List.drop_zero, file_all, file_get, rfile_get, List.length_map, file_len, at_row hbj, at_row hbk, blk_cells, List.drop_succ_cons]
                      conv => enter [5]; simp only [List.set_cons_zero, List.set_cons_succ]
                      refine AW.cond rfl (fun hc102 => ?_) (fun hc102 => ?_)
                      · skip
                        exact absurd hc102 (by
                          intro h
                          simp only [Bool.and_eq_true, beq_iff_eq, hbx, hby, hjx, hjy] at h
                          have h1 : c.getD j 0 = c.getD k 0 := by omega
                          have h2 := count_take hj1 (by omega) h1
                          omega)
                      · skip
                        refine AW.skip ?_
                        refine hK25 _ _ ?_; try clear hK25 K25
                        refine AW.lastl false [8] (by rfl) fun K hK => ?_ -- region 19
                        simp only [go_sem, Nat.reduceAdd, Nat.reduceEqDiff, Nat.reduceLeDiff, true_and, src_get, blk_get, dgm_get, blk_all, src_all, dgm_all, List.length_map, len_row, one_row, List.drop_zero, file_all, file_get, rfile_get, List.length_map, file_len]
                        refine hK _ _ fun env' hw => ?_
                        simp only [setL_cons, setL_nil, List.set_cons_zero, List.set_cons_succ] at hw
                        refine ⟨j + 1, by omega, by omega, ?_, rfl⟩
                        refine hw.trans ?_
                        simp [Wk, wrap_succ hj1 (Nat.le_trans (Nat.le_of_lt hk1) hpm0)]
                        try omega
                    · skip
                      have hj1 : j = k := by
                        have : ¬ j < k := by simpa using hc76
                        omega
                      refine AW.exit ?_
                      refine hK21 _ _ ?_; try clear hK21 K21
                      refine AW.regl false [9] (by rfl) fun K27 hK27 => ?_ -- region 22
                      simp only [go_sem, Nat.reduceAdd, Nat.reduceEqDiff, Nat.reduceLeDiff, true_and, src_get, blk_get, dgm_get, blk_all, src_all, dgm_all, List.length_map, len_row, one_row, List.drop_zero, file_all, file_get, rfile_get, List.length_map, file_len, at_row hfx, at_row hdk, FileM.enc, dgm_cells, List.drop_succ_cons, rblk_get, rblk_box]
                      refine hK27 _ _ ?_; try clear hK27 K27
                      conv => enter [5]; simp only [setL_cons, setL_nil, List.set_cons_zero, List.set_cons_succ, upd_none, upd_at]
                      refine AW.regl false [10] (by rfl) fun K28 hK28 => ?_ -- region 23
                      simp only [go_sem, Nat.reduceAdd, Nat.reduceEqDiff, Nat.reduceLeDiff, true_and, src_get, blk_get, dgm_get, blk_all, src_all, dgm_all, List.length_map, len_row, one_row, List.drop_zero, file_all, file_get, rfile_get, List.length_map, file_len]
                      refine hK28 _ _ ?_; try clear hK28 K28
                      conv => enter [5]; simp only [setL_cons, setL_nil, List.set_cons_zero, List.set_cons_succ]
                      refine AW.block ?_
                      refine AW.loop_wk (α := Nat) (fun q => [.any, (.ref σ.length 0), .any, (.ref (σ.length + 1) 0), .any, (.val (.int .i64 ((i : Nat) : Int))), (rowAV 7 p.nlB (p.blocks.map Blk.enc)), (.val (.int .i64 ((k : Nat) : Int))), .any, (.ref (σ.length + 2) 0), (.val (.int .i64 ((q : Nat) : Int))), .any, .any, .any, .any, .any, .any, .any, .any, .any, .any, .any, .any, .any, .any, .any, .any, .any, .any, .any, .any, .any, .any, .any, .any, .any, .any, .any, .any, .any, .any, .any, .any, .any, .any, .any, .any, .any, .any, .any, .any, .any, .any, .any, .any, .any, .any, .any, .any, .any, .any, .any, .any, .any, .any, .any, .any, .any, .any, .any, .any, .any, .any, .any, .any, .any, .any, .any, .any, .any, .any, .any, .any, .any, .any, .any, .any, .any, .any, .any, .any, .any, .any, .any, .any, .any, .any, .any, .any, .any, .any, .any, .any, .any, .any, .any, .any, .any, .any, .any, .any, .any, .any, .any, .any, .any, .any, .any, .any, .any, .any, .any, .any, .any, .any, .any, .any, .any, .any, .any, .any, .any, .any, .any, .any, .any, .any, .any, .any, .any, .any, .any, .any, .any, .any, .any]) (fun q => σ ++ [.cells (FileM.enc f).cells, .cells [rowAV 4 true (g.map Dgm.enc)], .cells (Blk.enc b).cells]) (fun q => b.src.length - q) (fun q => q ≤ b.src.length) 0 ?_ ?_
                      · exact ⟨Nat.zero_le _, by simp [Wk], rfl⟩
                      · intro q hi
                        refine AW.seq_k fun K29 hK29 => ?_
                        refine AW.regl false [116] (by rfl) fun K30 hK30 => ?_ -- region 24
                        simp only [go_sem, Nat.reduceAdd, Nat.reduceEqDiff, Nat.reduceLeDiff, true_and, src_get, blk_get, dgm_get, blk_all, src_all, dgm_all, List.length_map, len_row, one_row, List.drop_zero, file_all, file_get, rfile_get, List.length_map, file_len, blk_cells, List.drop_succ_cons]
                        refine hK30 _ _ ?_; try clear hK30 K30
                        conv => enter [5]; simp only [setL_cons, setL_nil, List.set_cons_zero, List.set_cons_succ]
                        refine AW.cond rfl (fun hc116 => ?_) (fun hc116 => ?_)
                        · skip
                          have hq1 : q < b.src.length := by simpa using hc116
                          obtain ⟨s, hss⟩ : ∃ z, z = b.src[q] := ⟨_, rfl⟩
                          have hsd : b.src[q]? = some s := by rw [hss]; exact List.getElem?_eq_getElem hq1
                          have hsq : (b.src.map Src.enc)[q]? = some s.enc := by rw [List.getElem?_map, hsd]; rfl
                          have hsm : s ∈ b.src := List.mem_of_getElem? hsd
                          have hlt := right_src hri hdm hbm0 hsm
                          have hpm : s.block ≥ 0 → ∃ bm : Blk, aAt 7 (rowAV 7 p.nlB (p.blocks.map Blk.enc)) (.val (.int .i64 s.block)) = some (.er bm.enc.cells) ∧ bm.x = (c.getD s.block.toNat 0 : Nat) := fun h => src_at hpk h (hlt h)
                          refine AW.skip ?_
                          refine hK29 _ _ ?_; try clear hK29 K29
                          refine AW.seq_k fun K31 hK31 => ?_
                          refine AW.block ?_
                          refine AW.regl false [11] (by rfl) fun K32 hK32 => ?_ -- region 26
                          simp only [go_sem, Nat.reduceAdd, Nat.reduceEqDiff, Nat.reduceLeDiff, true_and, src_get, blk_get, dgm_get, blk_all, src_all, dgm_all, List.length_map, len_row, one_row, List.drop_zero, file_all, file_get, rfile_get, List.length_map, file_len, blk_cells, List.drop_succ_cons, at_row hsq, Src.enc]
                          refine hK32 _ _ ?_; try clear hK32 K32
                          conv => enter [5]; simp only [setL_cons, setL_nil, List.set_cons_zero, List.set_cons_succ]
                          refine AW.regtdf mixed false 144 (.val (.bool (((decide (s.block ≥ 0)) && (b.kind != 4)) && (decide (((c.getD s.block.toNat 0 : Nat) : Int) ≥ ((c.getD k 0 : Nat) : Int)))))) (by kernel_rfl) (by rfl) ?_ ?_ -- region 27
                          · skip
                            cases h126 : ((decide (s.block ≥ 0)))
                            · skip
                              have hat27 : True := trivial
                              have hbmx : True := trivial
                              simp only [go_sem, Nat.reduceAdd, Nat.reduceEqDiff, Nat.reduceLeDiff, true_and, src_get, blk_get, dgm_get, blk_all, src_all, dgm_all, List.length_map, len_row, one_row, List.drop_zero, file_all, file_get, rfile_get, List.length_map, file_len, blk_cells, List.drop_succ_cons, hat27, at_row hbk, hbmx, hbx, h126]
                              try simp [upd_at, h126, src_get, blk_get, dgm_get, blk_all, src_all, dgm_all, List.length_map, len_row, one_row, List.drop_zero, file_all, file_get, rfile_get, List.length_map, file_len, blk_cells, List.drop_succ_cons, hat27, at_row hbk, hbmx, hbx]
                            · skip
                              obtain ⟨bm, hbm, hbmx⟩ := hpm (by simpa using h126)
                              have hat27 : aAt 7 (rowAV 7 p.nlB (p.blocks.map Blk.enc)) (.val (.int .i64 s.block)) = some (.er bm.enc.cells) := hbm
                              cases h130 : ((b.kind != 4))
                              · skip
                                simp only [go_sem, Nat.reduceAdd, Nat.reduceEqDiff, Nat.reduceLeDiff, true_and, src_get, blk_get, dgm_get, blk_all, src_all, dgm_all, List.length_map, len_row, one_row, List.drop_zero, file_all, file_get, rfile_get, List.length_map, file_len, blk_cells, List.drop_succ_cons, hat27, at_row hbk, hbmx, hbx, h126, h130]
                                try simp [upd_at, h126, h130, src_get, blk_get, dgm_get, blk_all, src_all, dgm_all, List.length_map, len_row, one_row, List.drop_zero, file_all, file_get, rfile_get, List.length_map, file_len, blk_cells, List.drop_succ_cons, hat27, at_row hbk, hbmx, hbx]
                              · skip
                                simp only [go_sem, Nat.reduceAdd, Nat.reduceEqDiff, Nat.reduceLeDiff, true_and, src_get, blk_get, dgm_get, blk_all, src_all, dgm_all, List.length_map, len_row, one_row, List.drop_zero, file_all, file_get, rfile_get, List.length_map, file_len, blk_cells, List.drop_succ_cons, hat27, at_row hbk, hbmx, hbx, h126, h130]
                                try simp [upd_at, h126, h130, src_get, blk_get, dgm_get, blk_all, src_all, dgm_all, List.length_map, len_row, one_row, List.drop_zero, file_all, file_get, rfile_get, List.length_map, file_len, blk_cells, List.drop_succ_cons, hat27, at_row hbk, hbmx, hbx]
                          conv => enter [5]; simp only [List.set_cons_zero, List.set_cons_succ]
                          refine AW.cond rfl (fun hc144 => ?_) (fun hc144 => ?_)
                          · skip
                            exact absurd hc144 (by
                              intro h
                              simp only [Bool.and_eq_true, decide_eq_true_eq, bne_iff_ne] at h
                              have := right_own hcc hkd h.1.2 hsm h.1.1 (hlt h.1.1)
                              omega)
                          · skip
                            refine AW.skip ?_
                            refine hK31 _ _ ?_; try clear hK31 K31
                            refine AW.lastl false [10] (by rfl) fun K hK => ?_ -- region 25
                            simp only [go_sem, Nat.reduceAdd, Nat.reduceEqDiff, Nat.reduceLeDiff, true_and, src_get, blk_get, dgm_get, blk_all, src_all, dgm_all, List.length_map, len_row, one_row, List.drop_zero, file_all, file_get, rfile_get, List.length_map, file_len]
                            refine hK _ _ fun env' hw => ?_
                            simp only [setL_cons, setL_nil, List.set_cons_zero, List.set_cons_succ] at hw
                            refine ⟨q + 1, by omega, by omega, ?_, rfl⟩
                            refine hw.trans ?_
                            simp [Wk, wrap_succ hq1 hbl]
                            try omega
                        · skip
                          have hq1 : q = b.src.length := by
                            have : ¬ q < b.src.length := by simpa using hc116
                            omega
                          refine AW.exit ?_
                          refine hK20 _ _ ?_; try clear hK20 K20
                          refine AW.lastl false [7] (by rfl) fun K hK => ?_ -- region 16
                          simp only [go_sem, Nat.reduceAdd, Nat.reduceEqDiff, Nat.reduceLeDiff, true_and, src_get, blk_get, dgm_get, blk_all, src_all, dgm_all, List.length_map, len_row, one_row, List.drop_zero, file_all, file_get, rfile_get, List.length_map, file_len]
                          refine hK _ _ fun env' hw => ?_
                          simp only [setL_cons, setL_nil, List.set_cons_zero, List.set_cons_succ] at hw
                          refine ⟨k + 1, by omega, by omega, ?_, by first | rfl | (simp [List.take_append, List.take_of_length_le]; done) | (simp [List.take_append, List.take_of_length_le]; repeat' constructor)⟩
                          refine hw.trans ?_
                          simp [Wk, wrap_succ hk1 hpm0]
                          try omega
                · skip
                  have hk1 : k = p.blocks.length := by
                    have : ¬ k < p.blocks.length := by simpa using hc71
                    omega
                  refine AW.exit ?_
                  refine hK13 _ _ ?_; try clear hK13 K13
                  refine AW.lastl false [5] (by rfl) fun K hK => ?_ -- region 10
                  simp only [go_sem, Nat.reduceAdd, Nat.reduceEqDiff, Nat.reduceLeDiff, true_and, src_get, blk_get, dgm_get, blk_all, src_all, dgm_all, List.length_map, len_row, one_row, List.drop_zero, file_all, file_get, rfile_get, List.length_map, file_len]
                  refine hK _ _ fun env' hw => ?_
                  simp only [setL_cons, setL_nil, List.set_cons_zero, List.set_cons_succ] at hw
                  refine ⟨i + 1, by omega, by omega, ?_, rfl⟩
                  refine hw.trans ?_
                  simp [Wk, wrap_succ hi1 hds]
                  try omega
          · skip
            have hi1 : i = f.ds.length := by
              have : ¬ i < f.ds.length := by simpa using hc49
              omega
            refine AW.exit ?_
            refine hK9 _ _ ?_; try clear hK9 K9
            refine AW.regl false [2] (by rfl) fun K34 hK34 => ?_ -- region 29
            simp only [go_sem, Nat.reduceAdd, Nat.reduceEqDiff, Nat.reduceLeDiff, true_and, src_get, blk_get, dgm_get, blk_all, src_all, dgm_all, List.length_map, len_row, one_row, List.drop_zero, file_all, file_get, rfile_get, List.length_map, file_len]
            refine sC.of en39 (gawake_calls.on _).here (by rfl) ?_
            simp only [go_sem, Nat.reduceAdd, Nat.reduceEqDiff, Nat.reduceLeDiff, true_and, src_get, blk_get, dgm_get, blk_all, src_all, dgm_all, List.length_map, len_row, one_row, List.drop_zero, file_all, file_get, rfile_get, List.length_map, file_len]
            refine hK34 _ _ ?_; try clear hK34 K34
            conv => enter [5]; simp only [setL_cons, setL_nil, List.set_cons_zero, List.set_cons_succ]
            refine AW.ret ⟨.inr rfl, _, rfl, by simp, ?_⟩ -- return 1
            exact .keep rfl
theorem own_small {d : Dgm} (h : d.small) : d.own.small := by
  obtain ⟨h1, h2, h3, h4, h5⟩ := h
  refine ⟨h1, h2, by simpa [Dgm.own] using h3, h4, fun b hb => ?_⟩
  simp only [Dgm.own, List.mem_map] at hb
  obtain ⟨b', hb', rfl⟩ := hb
  exact h5 b' hb'
theorem gridApart_calls (f : FileM) (hf : f.ok) (hn : f.fit) : APure prog GK 7 [f.enc] (.val (.bool true)) := by
  by_cases ho : (f.great || !f.rright) = true
  · exact gridApart_out f hf ho
  have h0 : f.great = false ∧ f.rright = true := by simpa using ho
  obtain ⟨hg, hr⟩ := h0
  have hfs := small_of hg
  have hri : f.right = true := by rw [← rright_eq f hfs hn]; exact hr
  have hR := right_calls f.own (own_ok hf)
  rw [own_right, hri] at hR
  have hP : APure prog GK 38 [f.own.enc] (match plL (f.ds.map Dgm.own) with | some g => .tup [.agg [rowAV 4 true (g.map Dgm.enc)], i64 0] | none => .tup [.agg [.nilsl], i64 9]) := by
    rcases hd : f.ds with _ | ⟨d, ds⟩
    · have e : f.own.enc = .agg [.nilsl] := by simp [FileM.own, FileM.enc, hd, rowAV]
      rw [e] at hR ⊢
      exact place_nil hR
    · have e : f.own.enc = .agg [.sl 4 ((f.ds.map Dgm.own).map Dgm.enc)] := by simp [FileM.own, FileM.enc, hd, rowAV]
      rw [e] at hR ⊢
      rw [← hd]
      have hp := place_cons (f.ds.map Dgm.own) (by rw [List.length_map]; exact hfs.1) (fun d' h => by obtain ⟨d, hd, rfl⟩ := List.mem_map.1 h; exact own_small (hfs.2 d hd)) (fun d' h => by obtain ⟨d, hd, rfl⟩ := List.mem_map.1 h; rfl) hR
      rcases hpl : plL (f.ds.map Dgm.own) with _ | g
      · rw [hpl] at hp
        exact hp
      · rw [hpl] at hp
        have hl := plL_len hpl
        rw [hd] at hl
        cases g with
        | nil => simp at hl
        | cons a g => exact hp
  rcases hpl : plL (f.ds.map Dgm.own) with _ | g
  · rw [hpl] at hP
    exact gridApart_none f hf hg hr hP
  · rw [hpl] at hP
    exact gridApart_some f hf hg hr hn g hpl hP
end Gr
end Go.Proofs.Tryd
