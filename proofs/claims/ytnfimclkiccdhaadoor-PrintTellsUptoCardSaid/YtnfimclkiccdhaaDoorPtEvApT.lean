import Derived.Test.YtnfimclkiccdhaaDoorPtEvAppend
/-! append, and the type of the row's block behind it. PRINTED by wip/gen/mkapt.py from EvAppend.lean. -/
namespace Go.Proofs.Ev
set_option linter.unusedSimpArgs false
set_option linter.unusedVariables false
open Go
variable {P : Program}
def TyK (C : Ctx) (k : Nat) (e : TypeId) : Prop := ∃ (arr : Array Value) (fr : Nat × Nat), C.w.heap[C.φ k]? = some (.cells arr e fr)
theorem appendGrowT {C : Ctx} (hS : RelS C) {tS tX ty e : TypeId} {i : TypeInfo} {z : Value} (hT : P.underlying tS = some (.slice e)) (hi : P.info? e = some i) (hz : i.zero = some z) (hz1 : z.cells.size = i.size) (hz2 : z.cells.toList.all Value.oneCell' = true)
    {nl : Bool} {k m : Nat} {es ds : List AV} {news : List Value} {y : Value} (hcap : C.σ[k]? = some (.cap m i.size)) (hlt : m < es.length + ds.length) (hs : Src P i.size tX y ds.length news C.w) (hnl : RelL C (ds.flatMap AV.cells) news)
    (hds : ∀ d ∈ ds, d.cells.length = i.size) (hsz0 : 0 < i.size) (hfit : es.length + ds.length ≤ 4611686018427387904 ∧ (es.length + ds.length) * i.bytes ≤ 140737488355328) (hne : es ++ ds ≠ []) (A : Option Addr) (c : Nat) (xs : List Value) (hxl : RelL C (es.flatMap AV.cells) xs) (hxlen : xs.length = es.length * i.size) (hx1 : ∀ u ∈ xs, u.oneCell' = true) (hes : ∀ e ∈ es, e.cells.length = i.size)
    (hold : (Builtin.firstCells i.size es.length (.slice A es.length c)).run P C.w.drew = .ok xs.toArray C.w.drew) (hgrow : c < es.length + ds.length) :
    ∃ (zv : Value) (D : Ctx), (Builtin.append_ #[tS, tX] ty #[.slice A es.length c, y]).run P C.w = .ok zv D.w ∧ D.σ = C.σ.set k (.cap (es.length + ds.length) i.size) ∧ Ext C D ∧ RelS D ∧ RelV D (.slo nl i.size (es ++ ds) k) zv ∧ TyK D k e := by
  have hnlen := relL_length hnl
  have hflat : (ds.flatMap AV.cells).length = ds.length * i.size := by rw [hnlen, hs.newsLen]
  have hpos : 0 < es.length + ds.length := by omega
  have hnc : Builtin.nextslicecap (es.length + ds.length) c * i.bytes ≤ 281474976710656 := by
    have h2 := Room.nextslicecap_le' (need := es.length + ds.length) (old := c) (by omega)
    have h3 : Builtin.nextslicecap (es.length + ds.length) c * i.bytes ≤ (2 * (es.length + ds.length)) * i.bytes := Nat.mul_le_mul_right _ h2
    have h4 : (2 * (es.length + ds.length)) * i.bytes = 2 * ((es.length + ds.length) * i.bytes) := by rw [Nat.mul_assoc]
    omega
  have hrun := run_append_grow_src C.w tS tX ty e i z hT hi hz A es.length c xs hold y ds.length news hs (by omega) (by omega) hnc
  have hge := grownCap_ge C.w (es.length + ds.length) c e
  have hle := grownCap_le_maxLen C.w (es.length + ds.length) c e (by simp only [maxLen]; omega)
  generalize grownCap C.w (es.length + ds.length) c e = gc at hrun hge hle
  generalize harr : (xs ++ news).toArray ++ Builtin.zeroCells z.cells (gc - (es.length + ds.length)) = arr at hrun
  have hasz : arr.size = gc * i.size := by
    rw [← harr]
    simp only [Array.size_append, List.size_toArray, List.length_append, zeroCells_size, hz1, hs.newsLen, hxlen]
    rw [← Nat.add_mul, ← Nat.add_mul]
    congr 1
    omega
  have hone : ∀ u ∈ arr.toList, u.oneCell' = true := by
    rw [← harr]
    intro u hu
    simp only [Array.toList_append] at hu
    rcases List.mem_append.1 hu with hu | hu
    · rcases List.mem_append.1 hu with hu | hu
      · exact hx1 u hu
      · exact hs.one u hu
    · exact zeroCells_one _ hz2 _ u hu
  have hcapd : C.drew.σ[k]? = some (.cap m i.size) := hcap
  have hE := (drew_ext C).trans (regrow_ext (drew_rel hS) (.cells arr e) hcapd hlt)
  have hblk : (C.drew.regrow k (.cap (es.length + ds.length) i.size) (.cells arr e)).w.heap[C.w.heap.size]? = some (.cells arr e (0, 0)) := heap_alloc_at _ _
  have hmul : (es.length + ds.length) * i.size ≤ arr.size := by rw [hasz]; exact Nat.mul_le_mul_right _ hge
  have hD := regrow_rel (drew_rel hS) hcapd hlt (ob := .cells arr e) (fun _ => ⟨arr, e, (0, 0), by rw [regrow_at]; exact hblk, hmul, hone, Nat.zero_le _⟩)
  refine ⟨_, _, hrun, rfl, hE, hD, ?_, ⟨arr, _, by rw [regrow_at]; exact hblk⟩⟩
  refine ⟨es.length + ds.length, by simp [Ctx.regrow, Ctx.drew, get_lt hcap], by simp, hsz0, fun e => absurd e hne, fun _ => ?_⟩
  refine ⟨C.w.heap.size, 0, gc, by simp, by simp; omega, hle, fun _ => ⟨by rw [regrow_at]; rfl, rfl, arr, e, (0, 0), hblk, by rw [hasz]; omega⟩, ?_⟩
  refine relRow_of (fun d hd => ?_) ?_
  · rcases List.mem_append.1 hd with hd | hd
    · exact hes d hd
    · exact hds d hd
  · rw [List.flatMap_append]
    have hfl : (es.flatMap AV.cells ++ ds.flatMap AV.cells).length = (es.length + ds.length) * i.size := by
      rw [List.length_append, hflat, relL_length hxl, hxlen, Nat.add_mul]
    refine relAt_of (xs := xs ++ news) (RelL.mono hE (relL_append hxl hnl)) (fun j u hj => ?_) (fun j hj => ?_)
    · have hu : u ∈ xs ++ news := List.mem_of_getElem? hj
      refine ⟨?_, ?_⟩
      · rw [Nat.zero_add, cell_of_row _ _ _ _ _ _ hblk, ← harr]
        have hjl : j < (xs ++ news).length := (List.getElem?_eq_some_iff.1 hj).1
        rw [Array.getElem?_append_left (by simpa using hjl)]
        simpa using hj
      · rcases List.mem_append.1 hu with hu | hu
        · exact hx1 u hu
        · exact hs.one u hu
    · refine ⟨lt_of_heap hblk, fun o l ho eo => ?_⟩
      rcases regrow_lim ho with rfl | ⟨h1, h2⟩
      · have : (C.drew.regrow o (.cap (es.length + ds.length) i.size) (.cells arr e)).lim o = some ((es.length + ds.length) * i.size) := by
          rw [lim_of (a := .cap (es.length + ds.length) i.size) (by simp [Ctx.regrow, Ctx.drew, get_lt hcap])]
          simp only [AO.lim]
          rw [if_neg (by omega)]
        rw [this] at ho
        cases ho
        omega
      · rw [regrow_φ h1] at eo
        have := (drew_rel hS).lim_lt h2
        have eo : C.φ o = C.w.heap.size := eo
        have this : C.φ o < C.w.heap.size := this
        omega
theorem aAppendOT_ok {C : Ctx} (hS : RelS C) {tS tX ty : TypeId} {nl : Bool} {sz k : Nat} {es : List AV} {q v : AV} {x y : Value} {σ' : List AO} (hp : RelV C (.slo nl sz es k) x) (hq : RelV C q y) (h : aAppendO P C.σ tS tX nl sz es k q = some (v, σ')) {e0 : TypeId} (he0 : P.underlying tS = some (.slice e0)) (hty : es ≠ [] → TyK C k e0) :
    ∃ (z : Value) (D : Ctx), (Builtin.append_ #[tS, tX] ty #[x, y]).run P C.w = .ok z D.w ∧ D.σ = σ' ∧ Ext C D ∧ RelS D ∧ RelV D v z ∧ ∀ es', v = .slo nl sz es' k → es' ≠ [] → TyK D k e0 := by
  unfold aAppendO at h
  split at h <;> try (simp at h; done)
  rename_i e hT
  obtain rfl : e = e0 := by rw [he0] at hT; cases hT; rfl
  split at h <;> try (simp at h; done)
  rename_i i hi
  split at h <;> try (simp at h; done)
  rename_i z hz
  split at h <;> try (simp at h; done)
  rename_i hzz
  obtain ⟨hz1, hz2, rfl⟩ := hzz
  split at h <;> try (simp at h; done)
  rename_i ds hsrc
  obtain ⟨hds, news, hs, hnl⟩ := aSrcE_ok hS hq hsrc
  have hnlen := relL_length hnl
  have hflat : (ds.flatMap AV.cells).length = ds.length * i.size := by rw [hnlen, hs.newsLen]
  split at h <;> try (simp at h; done)
  rename_i hcond
  obtain ⟨hcap, hfit⟩ := hcond
  have hcap := of_cap hcap
  simp only [fits, Bool.and_eq_true, decide_eq_true_eq] at hfit
  have hp0 := hp
  obtain ⟨n0, hn0, hle0, hsz0, h4, h5⟩ := hp
  rw [hcap] at hn0
  cases hn0
  split at h
  · -- nothing is appended
    rename_i hn
    cases h
    have hd0 : ds = [] := List.eq_nil_of_length_eq_zero hn
    subst hd0
    have hnn : news = [] := List.eq_nil_of_length_eq_zero (by have := hs.newsLen; simpa using this)
    subst hnn
    refine ⟨x, C, ?_, rfl, Ext.refl _, hS, hp0, fun es' e1 hne => by cases e1; exact hty hne⟩
    by_cases he : es = []
    · obtain ⟨A, rfl, _⟩ := h4 he
      cases A <;> rcases hs.kind with ⟨e', hk⟩ | hk <;> have hl := hs.len <;> have hc := hs.cells <;> simp at hl hc <;> simp [Builtin.append_, run_underlying hT, run_underlying hk, sizeOf, typeInfo, hi, hl, hc, storeCells]
    · obtain ⟨b, off, c, rfl, k1, _⟩ := h5 he
      rcases hs.kind with ⟨e', hk⟩ | hk <;> have hl := hs.len <;> have hc := hs.cells <;> simp at hl hc <;> simp [Builtin.append_, run_underlying hT, run_underlying hk, sizeOf, typeInfo, hi, hl, hc, storeCells, k1]
  · rename_i hn
    cases h
    have hpos : 0 < ds.length := by omega
    have hne : es ++ ds ≠ [] := fun e => by
      have := congrArg List.length e
      rw [List.length_append] at this
      simp only [List.length_nil] at this
      omega
    -- a new row
    have grow : ∀ (A : Option Addr) (c : Nat) (xs : List Value), RelL C (es.flatMap AV.cells) xs → xs.length = es.length * i.size → (∀ u ∈ xs, u.oneCell' = true) → (∀ e ∈ es, e.cells.length = i.size) →
        (Builtin.firstCells i.size es.length (.slice A es.length c)).run P C.w.drew = .ok xs.toArray C.w.drew → c < es.length + ds.length →
        ∃ (zv : Value) (D : Ctx), (Builtin.append_ #[tS, tX] ty #[.slice A es.length c, y]).run P C.w = .ok zv D.w ∧ D.σ = C.σ.set k (.cap (es.length + ds.length) i.size) ∧ Ext C D ∧ RelS D ∧ RelV D (.slo nl i.size (es ++ ds) k) zv ∧ TyK D k e :=
      appendGrowT hS hT hi hz hz1 hz2 hcap (by omega) hs hnl hds hsz0 hfit hne
    by_cases he : es = []
    · obtain ⟨A, rfl, _⟩ := h4 he
      have hel : es.length = 0 := by rw [he]; rfl
      obtain ⟨zv, D, h0⟩ := grow A 0 [] (by rw [he]; trivial) (by rw [he]; simp) (by simp) (by rw [he]; simp) (by
        rw [hel]
        cases A with
        | none => exact run_firstCells_none C.w.drew i.size 0 0 0
        | some a => exact run_firstCells_some C.w.drew i.size 0 a 0 0 [] (by simp) (by simp)) (by omega)
      rw [hel] at h0
      rw [hel]
      exact ⟨zv, D, h0.1, h0.2.1, h0.2.2.1, h0.2.2.2.1, h0.2.2.2.2.1, fun _ _ _ => h0.2.2.2.2.2⟩
    · obtain ⟨b, off, c, rfl, hlc, hcm, hcur, hrow⟩ := h5 he
      obtain ⟨rfl, rfl, arr, T, fr, hblk, hroom⟩ := hcur rfl
      obtain ⟨k1, k2⟩ := relRow_flat hrow
      obtain ⟨xs, l1, l2, l3⟩ := relAt_list k1
      have hxlen : xs.length = es.length * i.size := by rw [← relL_length l1, k2]
      by_cases hr : es.length + ds.length ≤ c
      · -- there is room
        have hcap1 : (es.length + ds.length) * i.size ≤ arr.size := Nat.le_trans (Nat.mul_le_mul_right _ hr) hroom
        have hcap' : es.length * i.size + news.length ≤ arr.size := by rw [hs.newsLen, ← Nat.add_mul]; exact hcap1
        have hcapg : (∀ v ∈ arr.toList, v.oneCell' = true) ∧ fr.2 ≤ es.length * i.size := by
          obtain ⟨arr', T', fr', g1, g2, g3, g4⟩ := hS.cap k es.length i.size hcap (List.length_pos_iff.2 he)
          rw [hblk] at g1
          cases g1
          exact ⟨g3, g4⟩
        have hcell : ∀ j, j < news.length → (C.w.cell? ⟨C.φ k, 0 + es.length * i.size + j, none⟩).isSome = true := by
          intro j hj
          rw [cell_of_row _ _ _ _ _ _ hblk]
          simp
          omega
        have hfro : ∀ j, j < news.length → C.w.frozen? ⟨C.φ k, 0 + es.length * i.size + j, none⟩ = false := by
          intro j _
          have := hcapg.2
          obtain ⟨f1, f2⟩ := fr
          simp only [World.frozen?, hblk, Bool.and_eq_false_iff, decide_eq_false_iff_not]
          exact .inr (by simp only at this; omega)
        have hrun := run_append_room_src C.w tS tX ty e i hT hi (C.φ k) 0 es.length c y ds.length news hs hr hcell hfro
        have hst1 := run_storeCells_cells (P := P) (C.φ k) (0 + es.length * i.size) news 0 C.w (by simpa using hcell) (by simpa using hfro) hs.one
        have hst2 := run_storeCells_atF P (C.φ k) (0 + es.length * i.size) T fr news 0 arr C.w hblk (by simpa using hcapg.2) (by simpa using hcap') hs.one
        have hset : C.w.setCells (C.φ k) (0 + es.length * i.size) news = C.w.setRow (C.φ k) (arr.toList.take (0 + es.length * i.size + 0) ++ news ++ arr.toList.drop (0 + es.length * i.size + 0 + news.length)).toArray := by
          have := hst1.symm.trans hst2
          simpa using this
        simp only [Nat.zero_add, Nat.add_zero] at hset hrun
        generalize harr2 : (arr.toList.take (es.length * i.size) ++ news ++ arr.toList.drop (es.length * i.size + news.length)).toArray = arr2 at hset
        have hsz2 : arr.size = arr2.size := by rw [← harr2]; simp; omega
        have hget2 : ∀ j, arr2[j]? = if j < es.length * i.size then arr[j]? else if j < es.length * i.size + news.length then news[j - es.length * i.size]? else arr[j]? := by
          intro j
          rw [← harr2]
          simp only [List.getElem?_toArray, List.append_assoc]
          rw [List.getElem?_append]
          have e1 : (arr.toList.take (es.length * i.size)).length = es.length * i.size := by simp; omega
          rw [e1]
          split
          · rename_i hj
            rw [List.getElem?_take, if_pos hj]
            simp
          · rename_i hj
            rw [List.getElem?_append]
            split
            · rename_i hj2
              rw [if_pos (by omega)]
            · rename_i hj2
              rw [if_neg (by omega), List.getElem?_drop]
              simp
              congr 1
              omega
        have hone2 : ∀ u ∈ arr2.toList, u.oneCell' = true := by
          have g3 := hcapg.1
          rw [← harr2]
          intro u hu
          rcases List.mem_append.1 hu with hu | hu
          · rcases List.mem_append.1 hu with hu | hu
            · exact g3 u (List.mem_of_mem_take hu)
            · exact hs.one u hu
          · exact g3 u (List.mem_of_mem_drop hu)
        have hlim : (AO.cap es.length i.size).lim = some (es.length * i.size) := by
          simp only [AO.lim]
          rw [if_neg (fun e => he (List.eq_nil_of_length_eq_zero e))]
        have hlim' : (AO.cap (es.length + ds.length) i.size).lim = some ((es.length + ds.length) * i.size) := by
          simp only [AO.lim]
          rw [if_neg (by omega)]
        have hE : Ext C (C.put k (.cap (es.length + ds.length) i.size) (.cells arr2 T fr)) := put_ext hS hcap hlim hblk ⟨hsz2, rfl, rfl⟩ (.inr ⟨_, _, _, rfl, rfl, by omega⟩) ⟨_, hlim', Nat.mul_le_mul_right _ (by omega)⟩ ⟨by simp, by simp⟩ (fun off hoff => by
          rw [cell_of_row _ _ _ _ _ _ (setBlk_same _ _ _ (lt_of_heap hblk)), cell_of_row _ _ _ _ _ _ hblk, hget2, if_pos hoff])
        have hD := put_rel hS (by rw [lim_of hcap, hlim]; rfl) hE (fun _ => ⟨arr2, T, fr, setBlk_same _ _ _ (lt_of_heap hblk), by omega, hone2, Nat.le_trans hcapg.2 (Nat.mul_le_mul_right _ (by omega))⟩)
        have hblk2 : (C.put k (.cap (es.length + ds.length) i.size) (.cells arr2 T fr)).w.heap[C.φ k]? = some (.cells arr2 T fr) := setBlk_same _ _ _ (lt_of_heap hblk)
        refine ⟨.slice (some ⟨C.φ k, 0, none⟩) (es.length + ds.length) c, C.put k (.cap (es.length + ds.length) i.size) (.cells arr2 T fr), ?_, rfl, hE, hD, ?_, ?_⟩
        · rw [hrun, hset, setRow_eq _ _ _ _ _ _ hblk]
          rfl
        · refine ⟨es.length + ds.length, put_at (get_lt hcap), by simp, hsz0, fun e => absurd e hne, fun _ => ?_⟩
          refine ⟨C.φ k, 0, c, by simp, by simp; exact hr, hcm, fun _ => ⟨rfl, rfl, arr2, T, fr, hblk2, by omega⟩, ?_⟩
          refine relRow_append (RelRow.mono hE hrow) (relRow_of hds ?_)
          refine relAt_of (xs := news) (RelL.mono hE hnl) (fun j u hj => ⟨?_, hs.one u (List.mem_of_getElem? hj)⟩) (fun j hj => ⟨lt_of_heap hblk2, fun o l ho eo => ?_⟩)
          · have hjl : j < news.length := (List.getElem?_eq_some_iff.1 hj).1
            rw [cell_of_row _ _ _ _ _ _ hblk2, hget2, if_neg (by omega), if_pos (by omega)]
            rw [Nat.zero_add, Nat.add_sub_cancel_left]
            exact hj
          · obtain ⟨a, h1, h2⟩ := lim_get ho
            rcases put_get h1 with ⟨_, rfl, _⟩ | ⟨hne2, h3⟩
            · rw [hlim'] at h2
              cases h2
              rw [hflat] at hj
              rw [Nat.add_mul]
              omega
            · exact absurd (hS.inj o k (by rw [lim_of h3, h2]; rfl) (by rw [lim_of hcap, hlim]; rfl) eo) hne2
        · intro es' _ _
          obtain ⟨arr0, fr0, t1⟩ := hty he
          rw [hblk] at t1
          cases t1
          exact ⟨arr2, _, hblk2⟩
      · obtain ⟨zv, D, h0⟩ := grow (some ⟨C.φ k, 0, none⟩) c xs l1 hxlen l3 (relRow_sizes hrow) (run_firstCells_some C.w.drew i.size es.length ⟨C.φ k, 0, none⟩ es.length c xs hxlen (fun j u hj => by rw [add_lit]; simpa using l2 j u hj)) (by omega)
        exact ⟨zv, D, h0.1, h0.2.1, h0.2.2.1, h0.2.2.2.1, h0.2.2.2.2.1, fun _ _ _ => h0.2.2.2.2.2⟩
end Go.Proofs.Ev

