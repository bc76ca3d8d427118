import Derived.Test.YteekpkbmkibacaaDoorLEvChain
/-! An element that is written behind its append. -/
namespace Go.Proofs.Ev
set_option linter.unusedSimpArgs false
set_option linter.unusedVariables false
open Go
variable {P : Program}
/-- How a row has grown, and where it lies. -/
structure Grown (C D : Ctx) (k sz : Nat) (es : List AV) (n : Nat) (zv : Value) : Prop where
  φ : ∀ j, j ≠ k → D.φ j = C.φ j
  pl : (es ≠ [] ∧ D.φ k = C.φ k) ∨ C.w.heap.size ≤ D.φ k
  other : ∀ o, o ≠ k → (C.lim o).isSome = true → D.w.heap[C.φ o]? = C.w.heap[C.φ o]?
  val : ∃ c, zv = .slice (some ⟨D.φ k, 0, none⟩) n c ∧ n ≤ c ∧ c ≤ maxLen ∧ ∃ (arr : Array Value) (T : TypeId), D.w.heap[D.φ k]? = some (.cells arr T (0, 0)) ∧ c * sz ≤ arr.size
  old : ∃ xs : List Value, RelL C (es.flatMap AV.cells) xs ∧ ∀ (j : Nat) (u : Value), xs[j]? = some u → D.w.cell? ⟨D.φ k, j, none⟩ = some u ∧ u.oneCell' = true
theorem appendGrowG {C : Ctx} (hS : RelS C) {tS tX ty e : TypeId} {i : TypeInfo} {z : Value} (hT : P.underlying tS = some (.slice e)) (hi : P.info? e = some i) (hz : i.zero = some z) (hz1 : z.cells.size = i.size) (hz2 : z.cells.toList.all Value.oneCell' = true)
    {nl : Bool} {k m : Nat} {es ds : List AV} {news : List Value} {y : Value} (hcap : C.σ[k]? = some (.cap m i.size)) (hlt : m < es.length + ds.length) (hs : Src P i.size tX y ds.length news C.w) (hnl : RelL C (ds.flatMap AV.cells) news)
    (hds : ∀ d ∈ ds, d.cells.length = i.size) (hsz0 : 0 < i.size) (hfit : es.length + ds.length ≤ 4611686018427387904 ∧ (es.length + ds.length) * i.bytes ≤ 140737488355328) (hne : es ++ ds ≠ []) (A : Option Addr) (c : Nat) (xs : List Value) (hxl : RelL C (es.flatMap AV.cells) xs) (hxlen : xs.length = es.length * i.size) (hx1 : ∀ u ∈ xs, u.oneCell' = true) (hes : ∀ e ∈ es, e.cells.length = i.size)
    (hold : (Builtin.firstCells i.size es.length (.slice A es.length c)).run P C.w.drew = .ok xs.toArray C.w.drew) (hgrow : c < es.length + ds.length) :
    ∃ (zv : Value) (D : Ctx), (Builtin.append_ #[tS, tX] ty #[.slice A es.length c, y]).run P C.w = .ok zv D.w ∧ D.σ = C.σ.set k (.cap (es.length + ds.length) i.size) ∧ Ext C D ∧ RelS D ∧ RelV D (.slo nl i.size (es ++ ds) k) zv ∧ Grown C D k i.size es (es.length + ds.length) zv := by
  have hnlen := relL_length hnl
  have hflat : (ds.flatMap AV.cells).length = ds.length * i.size := by rw [hnlen, hs.newsLen]
  have hpos : 0 < es.length + ds.length := by omega
  have hnc : Builtin.nextslicecap (es.length + ds.length) c * i.bytes ≤ 281474976710656 := by
    have h2 := Room.nextslicecap_le' (need := es.length + ds.length) (old := c) (by omega)
    have h3 : Builtin.nextslicecap (es.length + ds.length) c * i.bytes ≤ (2 * (es.length + ds.length)) * i.bytes := Nat.mul_le_mul_right _ h2
    have h4 : (2 * (es.length + ds.length)) * i.bytes = 2 * ((es.length + ds.length) * i.bytes) := by rw [Nat.mul_assoc]
    omega
  have hrun := run_append_grow_src C.w tS tX ty e i z hT hi hz A es.length c xs hold y ds.length news hs (by omega) (by omega) hnc
  have hge := grownCap_ge C.w (es.length + ds.length) c e
  have hle := grownCap_le_maxLen C.w (es.length + ds.length) c e (by simp only [maxLen]; omega)
  generalize grownCap C.w (es.length + ds.length) c e = gc at hrun hge hle
  generalize harr : (xs ++ news).toArray ++ Builtin.zeroCells z.cells (gc - (es.length + ds.length)) = arr at hrun
  have hasz : arr.size = gc * i.size := by
    rw [← harr]
    simp only [Array.size_append, List.size_toArray, List.length_append, zeroCells_size, hz1, hs.newsLen, hxlen]
    rw [← Nat.add_mul, ← Nat.add_mul]
    congr 1
    omega
  have hone : ∀ u ∈ arr.toList, u.oneCell' = true := by
    rw [← harr]
    intro u hu
    simp only [Array.toList_append] at hu
    rcases List.mem_append.1 hu with hu | hu
    · rcases List.mem_append.1 hu with hu | hu
      · exact hx1 u hu
      · exact hs.one u hu
    · exact zeroCells_one _ hz2 _ u hu
  have hcapd : C.drew.σ[k]? = some (.cap m i.size) := hcap
  have hE := (drew_ext C).trans (regrow_ext (drew_rel hS) (.cells arr e) hcapd hlt)
  have hblk : (C.drew.regrow k (.cap (es.length + ds.length) i.size) (.cells arr e)).w.heap[C.w.heap.size]? = some (.cells arr e (0, 0)) := heap_alloc_at _ _
  have hmul : (es.length + ds.length) * i.size ≤ arr.size := by rw [hasz]; exact Nat.mul_le_mul_right _ hge
  have hD := regrow_rel (drew_rel hS) hcapd hlt (ob := .cells arr e) (fun _ => ⟨arr, e, by rw [regrow_at]; exact hblk, hmul, hone⟩)
  refine ⟨_, _, hrun, rfl, hE, hD, ?_, ?_⟩
  rotate_left
  · refine ⟨fun j hj => regrow_φ hj, .inr (by rw [regrow_at]; exact Nat.le_refl _), fun o _ ho => ?_, ⟨gc, by rw [regrow_at]; rfl, by omega, hle, arr, e, by rw [regrow_at]; exact hblk, by rw [hasz]; omega⟩, xs, hxl, fun j u hj => ⟨?_, hx1 u (List.mem_of_getElem? hj)⟩⟩
    · obtain ⟨l, hl⟩ := Option.isSome_iff_exists.1 ho
      exact heap_alloc_lt _ _ (hS.lim_lt hl)
    · rw [regrow_at]
      show World.cell? _ ⟨C.w.heap.size, j, none⟩ = some u
      rw [cell_of_row _ _ _ _ _ _ hblk, ← harr]
      have hjl : j < xs.length := (List.getElem?_eq_some_iff.1 hj).1
      rw [Array.getElem?_append_left (by simp; omega)]
      simp only [List.getElem?_toArray]
      rw [List.getElem?_append_left hjl]
      exact hj
  refine ⟨es.length + ds.length, by simp [Ctx.regrow, Ctx.drew, get_lt hcap], by simp, hsz0, fun e => absurd e hne, fun _ => ?_⟩
  refine ⟨C.w.heap.size, 0, gc, by simp, by simp; omega, hle, fun _ => ⟨by rw [regrow_at]; rfl, rfl, arr, e, hblk, by rw [hasz]; omega⟩, ?_⟩
  refine relRow_of (fun d hd => ?_) ?_
  · rcases List.mem_append.1 hd with hd | hd
    · exact hes d hd
    · exact hds d hd
  · rw [List.flatMap_append]
    have hfl : (es.flatMap AV.cells ++ ds.flatMap AV.cells).length = (es.length + ds.length) * i.size := by
      rw [List.length_append, hflat, relL_length hxl, hxlen, Nat.add_mul]
    refine relAt_of (xs := xs ++ news) (RelL.mono hE (relL_append hxl hnl)) (fun j u hj => ?_) (fun j hj => ?_)
    · have hu : u ∈ xs ++ news := List.mem_of_getElem? hj
      refine ⟨?_, ?_⟩
      · rw [Nat.zero_add, cell_of_row _ _ _ _ _ _ hblk, ← harr]
        have hjl : j < (xs ++ news).length := (List.getElem?_eq_some_iff.1 hj).1
        rw [Array.getElem?_append_left (by simpa using hjl)]
        simpa using hj
      · rcases List.mem_append.1 hu with hu | hu
        · exact hx1 u hu
        · exact hs.one u hu
    · refine ⟨lt_of_heap hblk, fun o l ho eo => ?_⟩
      rcases regrow_lim ho with rfl | ⟨h1, h2⟩
      · have : (C.drew.regrow o (.cap (es.length + ds.length) i.size) (.cells arr e)).lim o = some ((es.length + ds.length) * i.size) := by
          rw [lim_of (a := .cap (es.length + ds.length) i.size) (by simp [Ctx.regrow, Ctx.drew, get_lt hcap])]
          simp only [AO.lim]
          rw [if_neg (by omega)]
        rw [this] at ho
        cases ho
        omega
      · rw [regrow_φ h1] at eo
        have := (drew_rel hS).lim_lt h2
        have eo : C.φ o = C.w.heap.size := eo
        have this : C.φ o < C.w.heap.size := this
        omega
theorem aAppendOG_ok {C : Ctx} (hS : RelS C) {tS tX ty : TypeId} {nl : Bool} {sz k : Nat} {es : List AV} {q v : AV} {x y : Value} {σ' : List AO} (hp : RelV C (.slo nl sz es k) x) (hq : RelV C q y) (h : aAppendO P C.σ tS tX nl sz es k q = some (v, σ')) {d : AV} (hone' : aSrcE P tX sz q = some [d]) :
    ∃ (z : Value) (D : Ctx), (Builtin.append_ #[tS, tX] ty #[x, y]).run P C.w = .ok z D.w ∧ D.σ = σ' ∧ Ext C D ∧ RelS D ∧ RelV D v z ∧ Grown C D k sz es (es.length + 1) z := by
  unfold aAppendO at h
  split at h <;> try (simp at h; done)
  rename_i e hT
  split at h <;> try (simp at h; done)
  rename_i i hi
  split at h <;> try (simp at h; done)
  rename_i z hz
  split at h <;> try (simp at h; done)
  rename_i hzz
  obtain ⟨hz1, hz2, rfl⟩ := hzz
  split at h <;> try (simp at h; done)
  rename_i ds hsrc
  rw [hone'] at hsrc
  cases hsrc
  obtain ⟨hds, news, hs, hnl⟩ := aSrcE_ok hS hq hone'
  have hnlen := relL_length hnl
  have hflat : ([d].flatMap AV.cells).length = 1 * i.size := by rw [hnlen, hs.newsLen]; rfl
  split at h <;> try (simp at h; done)
  rename_i hcond
  obtain ⟨hcap, hfit⟩ := hcond
  have hcap := of_cap hcap
  simp only [fits, Bool.and_eq_true, decide_eq_true_eq] at hfit
  have hp0 := hp
  obtain ⟨n0, hn0, hle0, hsz0, h4, h5⟩ := hp
  rw [hcap] at hn0
  cases hn0
  split at h
  · rename_i hn
    simp at hn
  · rename_i hn
    cases h
    have hpos : 0 < 1 := by omega
    have hne : es ++ [d] ≠ [] := fun e => by
      have := congrArg List.length e
      rw [List.length_append] at this
      simp only [List.length_nil] at this
      omega
    -- a new row
    have grow : ∀ (A : Option Addr) (c : Nat) (xs : List Value), RelL C (es.flatMap AV.cells) xs → xs.length = es.length * i.size → (∀ u ∈ xs, u.oneCell' = true) → (∀ e ∈ es, e.cells.length = i.size) →
        (Builtin.firstCells i.size es.length (.slice A es.length c)).run P C.w.drew = .ok xs.toArray C.w.drew → c < es.length + 1 →
        ∃ (zv : Value) (D : Ctx), (Builtin.append_ #[tS, tX] ty #[.slice A es.length c, y]).run P C.w = .ok zv D.w ∧ D.σ = C.σ.set k (.cap (es.length + 1) i.size) ∧ Ext C D ∧ RelS D ∧ RelV D (.slo nl i.size (es ++ [d]) k) zv ∧ Grown C D k i.size es (es.length + 1) zv :=
      appendGrowG hS hT hi hz hz1 hz2 hcap (by omega) hs hnl hds hsz0 hfit hne
    by_cases he : es = []
    · obtain ⟨A, rfl, _⟩ := h4 he
      have hel : es.length = 0 := by rw [he]; rfl
      have h0 := grow A 0 [] (by rw [he]; trivial) (by rw [he]; simp) (by simp) (by rw [he]; simp) (by
        rw [hel]
        cases A with
        | none => exact run_firstCells_none C.w.drew i.size 0 0 0
        | some a => exact run_firstCells_some C.w.drew i.size 0 a 0 0 [] (by simp) (by simp)) (by omega)
      rw [hel] at h0
      rw [hel]
      exact h0
    · obtain ⟨b, off, c, rfl, hlc, hcm, hcur, hrow⟩ := h5 he
      obtain ⟨rfl, rfl, arr, T, hblk, hroom⟩ := hcur rfl
      obtain ⟨k1, k2⟩ := relRow_flat hrow
      obtain ⟨xs, l1, l2, l3⟩ := relAt_list k1
      have hxlen : xs.length = es.length * i.size := by rw [← relL_length l1, k2]
      by_cases hr : es.length + 1 ≤ c
      · -- there is room
        have hcap1 : (es.length + 1) * i.size ≤ arr.size := Nat.le_trans (Nat.mul_le_mul_right _ hr) hroom
        have hcap' : es.length * i.size + news.length ≤ arr.size := by rw [hs.newsLen, ← Nat.add_mul]; exact hcap1
        have hcell : ∀ j, j < news.length → (C.w.cell? ⟨C.φ k, 0 + es.length * i.size + j, none⟩).isSome = true := by
          intro j hj
          rw [cell_of_row _ _ _ _ _ _ hblk]
          simp
          omega
        have hfro : ∀ j, j < news.length → C.w.frozen? ⟨C.φ k, 0 + es.length * i.size + j, none⟩ = false := by
          intro j _
          simp [World.frozen?, hblk]
        have hrun := run_append_room_src C.w tS tX ty e i hT hi (C.φ k) 0 es.length c y 1 news hs hr hcell hfro
        have hst1 := run_storeCells_cells (P := P) (C.φ k) (0 + es.length * i.size) news 0 C.w (by simpa using hcell) (by simpa using hfro) hs.one
        have hst2 := run_storeCells_at P (C.φ k) (0 + es.length * i.size) T news 0 arr C.w hblk (by simpa using hcap') hs.one
        have hset : C.w.setCells (C.φ k) (0 + es.length * i.size) news = C.w.setRow (C.φ k) (arr.toList.take (0 + es.length * i.size + 0) ++ news ++ arr.toList.drop (0 + es.length * i.size + 0 + news.length)).toArray := by
          have := hst1.symm.trans hst2
          simpa using this
        simp only [Nat.zero_add, Nat.add_zero] at hset hrun
        generalize harr2 : (arr.toList.take (es.length * i.size) ++ news ++ arr.toList.drop (es.length * i.size + news.length)).toArray = arr2 at hset
        have hsz2 : arr.size = arr2.size := by rw [← harr2]; simp; omega
        have hget2 : ∀ j, arr2[j]? = if j < es.length * i.size then arr[j]? else if j < es.length * i.size + news.length then news[j - es.length * i.size]? else arr[j]? := by
          intro j
          rw [← harr2]
          simp only [List.getElem?_toArray, List.append_assoc]
          rw [List.getElem?_append]
          have e1 : (arr.toList.take (es.length * i.size)).length = es.length * i.size := by simp; omega
          rw [e1]
          split
          · rename_i hj
            rw [List.getElem?_take, if_pos hj]
            simp
          · rename_i hj
            rw [List.getElem?_append]
            split
            · rename_i hj2
              rw [if_pos (by omega)]
            · rename_i hj2
              rw [if_neg (by omega), List.getElem?_drop]
              simp
              congr 1
              omega
        have hone2 : ∀ u ∈ arr2.toList, u.oneCell' = true := by
          obtain ⟨arr', T', g1, g2, g3⟩ := hS.cap k es.length i.size hcap (List.length_pos_iff.2 he)
          rw [hblk] at g1
          cases g1
          rw [← harr2]
          intro u hu
          rcases List.mem_append.1 hu with hu | hu
          · rcases List.mem_append.1 hu with hu | hu
            · exact g3 u (List.mem_of_mem_take hu)
            · exact hs.one u hu
          · exact g3 u (List.mem_of_mem_drop hu)
        have hlim : (AO.cap es.length i.size).lim = some (es.length * i.size) := by
          simp only [AO.lim]
          rw [if_neg (fun e => he (List.eq_nil_of_length_eq_zero e))]
        have hlim' : (AO.cap (es.length + 1) i.size).lim = some ((es.length + 1) * i.size) := by
          simp only [AO.lim]
          rw [if_neg (by omega)]
        have hE : Ext C (C.put k (.cap (es.length + 1) i.size) (.cells arr2 T (0, 0))) := put_ext hS hcap hlim hblk ⟨hsz2, rfl, rfl⟩ (.inr ⟨_, _, _, rfl, rfl, by omega⟩) ⟨_, hlim', Nat.mul_le_mul_right _ (by omega)⟩ ⟨by simp, by simp⟩ (fun off hoff => by
          rw [cell_of_row _ _ _ _ _ _ (setBlk_same _ _ _ (lt_of_heap hblk)), cell_of_row _ _ _ _ _ _ hblk, hget2, if_pos hoff])
        have hD := put_rel hS (by rw [lim_of hcap, hlim]; rfl) hE (fun _ => ⟨arr2, T, setBlk_same _ _ _ (lt_of_heap hblk), by omega, hone2⟩)
        have hblk2 : (C.put k (.cap (es.length + 1) i.size) (.cells arr2 T (0, 0))).w.heap[C.φ k]? = some (.cells arr2 T (0, 0)) := setBlk_same _ _ _ (lt_of_heap hblk)
        refine ⟨.slice (some ⟨C.φ k, 0, none⟩) (es.length + 1) c, C.put k (.cap (es.length + 1) i.size) (.cells arr2 T (0, 0)), ?_, rfl, hE, hD, ?_, ?_⟩
        rotate_right
        · refine ⟨fun _ _ => rfl, .inl ⟨he, rfl⟩, fun o hne2 ho => setBlk_other _ _ _ _ fun e => hne2 (hS.inj o k ho (by rw [lim_of hcap, hlim]; rfl) e), ⟨c, rfl, hr, hcm, arr2, T, hblk2, by omega⟩, xs, l1, fun j u hj => ⟨?_, ?_⟩⟩
          · have hjl : j < xs.length := (List.getElem?_eq_some_iff.1 hj).1
            have h6 := l2 j u hj
            show World.cell? _ ⟨C.φ k, j, none⟩ = some u
            rw [cell_of_row _ _ _ _ _ _ hblk2, hget2, if_pos (by omega)]
            rw [Nat.zero_add, cell_of_row _ _ _ _ _ _ hblk] at h6
            exact h6
          · exact l3 u (List.mem_of_getElem? hj)
        · rw [hrun, hset, setRow_eq _ _ _ _ _ _ hblk]
          rfl
        · refine ⟨es.length + 1, put_at (get_lt hcap), by simp, hsz0, fun e => absurd e hne, fun _ => ?_⟩
          refine ⟨C.φ k, 0, c, by simp, by simp; exact hr, hcm, fun _ => ⟨rfl, rfl, arr2, T, hblk2, by omega⟩, ?_⟩
          refine relRow_append (RelRow.mono hE hrow) (relRow_of hds ?_)
          refine relAt_of (xs := news) (RelL.mono hE hnl) (fun j u hj => ⟨?_, hs.one u (List.mem_of_getElem? hj)⟩) (fun j hj => ⟨lt_of_heap hblk2, fun o l ho eo => ?_⟩)
          · have hjl : j < news.length := (List.getElem?_eq_some_iff.1 hj).1
            rw [cell_of_row _ _ _ _ _ _ hblk2, hget2, if_neg (by omega), if_pos (by omega)]
            rw [Nat.zero_add, Nat.add_sub_cancel_left]
            exact hj
          · obtain ⟨a, h1, h2⟩ := lim_get ho
            rcases put_get h1 with ⟨_, rfl, _⟩ | ⟨hne2, h3⟩
            · rw [hlim'] at h2
              cases h2
              rw [hflat] at hj
              rw [Nat.add_mul]
              omega
            · exact absurd (hS.inj o k (by rw [lim_of h3, h2]; rfl) (by rw [lim_of hcap, hlim]; rfl) eo) hne2
      · exact grow (some ⟨C.φ k, 0, none⟩) c xs l1 hxlen l3 (relRow_sizes hrow) (run_firstCells_some C.w.drew i.size es.length ⟨C.φ k, 0, none⟩ es.length c xs hxlen (fun j u hj => by rw [add_lit]; simpa using l2 j u hj)) (by omega)

theorem flatC_len {sz : Nat} : ∀ {es : List AV}, (∀ e ∈ es, e.cells.length = sz) → (es.flatMap AV.cells).length = es.length * sz
  | [], _ => by simp
  | e :: es, h => by
    rw [List.flatMap_cons, List.length_append, h e List.mem_cons_self, flatC_len fun e he => h e (List.mem_cons_of_mem _ he), List.length_cons, Nat.add_mul]
    omega
def spl (arr : Array Value) (off : Nat) (ys : List Value) : Array Value := (arr.toList.take off ++ ys ++ arr.toList.drop (off + ys.length)).toArray
theorem spl_size {arr : Array Value} {off : Nat} {ys : List Value} (h : off + ys.length ≤ arr.size) : (spl arr off ys).size = arr.size := by simp [spl]; omega
theorem spl_get {arr : Array Value} {off : Nat} {ys : List Value} (h : off + ys.length ≤ arr.size) (j : Nat) : (spl arr off ys)[j]? = if j < off then arr[j]? else if j < off + ys.length then ys[j - off]? else arr[j]? := by
  unfold spl
  simp only [List.getElem?_toArray, List.append_assoc]
  rw [List.getElem?_append]
  have e1 : (arr.toList.take off).length = off := by simp; omega
  rw [e1]
  split
  · rename_i hj
    rw [List.getElem?_take, if_pos hj]
    simp
  · rename_i hj
    rw [List.getElem?_append]
    split
    · rw [if_pos (by omega)]
    · rw [if_neg (by omega), List.getElem?_drop]
      simp
      congr 1
      omega
theorem spl_one {arr : Array Value} {off : Nat} {ys : List Value} (h : ∀ u ∈ arr.toList, u.oneCell' = true) (hy : ∀ u ∈ ys, u.oneCell' = true) : ∀ u ∈ (spl arr off ys).toList, u.oneCell' = true := by
  intro u hu
  simp only [spl] at hu
  rcases List.mem_append.1 hu with hu | hu
  · rcases List.mem_append.1 hu with hu | hu
    · exact h u (List.mem_of_mem_take hu)
    · exact hy u hu
  · exact h u (List.mem_of_mem_drop hu)
theorem aAppendO_st {σ σ' : List AO} {tS tX : TypeId} {nl : Bool} {sz k : Nat} {es : List AV} {q v d : AV} (h : aAppendO P σ tS tX nl sz es k q = some (v, σ')) (h1 : aSrcE P tX sz q = some [d]) :
    σ' = σ.set k (.cap (es.length + 1) sz) ∧ σ[k]? = some (.cap es.length sz) := by
  unfold aAppendO at h
  split at h <;> try (simp at h; done)
  split at h <;> try (simp at h; done)
  split at h <;> try (simp at h; done)
  split at h <;> try (simp at h; done)
  rename_i hzz
  obtain ⟨_, _, rfl⟩ := hzz
  rw [h1] at h
  simp only [List.length_cons, List.length_nil, Nat.zero_add, Nat.reduceEqDiff, if_false] at h
  split at h <;> try (simp at h; done)
  rename_i hc
  simp only [Option.some.injEq, Prod.mk.injEq] at h
  exact ⟨h.2.symm, of_cap hc.1⟩
set_option maxHeartbeats 1000000 in
/-- An appended element, and then written. -/
theorem late_ok {C : Ctx} (hS : RelS C) {tS tX ty : TypeId} {nl : Bool} {sz k : Nat} {es : List AV} {q u d : AV} {x y : Value} {σ' : List AO} (hp : RelV C (.slo nl sz es k) x) (hq : RelV C q y) (h : aAppendO P C.σ tS tX nl sz es k q = some (u, σ')) (hone' : aSrcE P tX sz q = some [d])
    {v : AV} {ys : List Value} (hvl : v.cells.length = sz) (hys : RelL C v.cells ys) (hy1 : ∀ w ∈ ys, w.oneCell' = true) (hes : ∀ e ∈ es, e.cells.length = sz) :
    ∃ (D1 D : Ctx) (c : Nat) (arr : Array Value) (T : TypeId), (Builtin.append_ #[tS, tX] ty #[x, y]).run P C.w = .ok (.slice (some ⟨D.φ k, 0, none⟩) (es.length + 1) c) D1.w ∧ RelS D1 ∧ D1.φ = D.φ ∧ D1.σ = D.σ ∧ D1.w.heap[D.φ k]? = some (.cells arr T (0, 0)) ∧ es.length * sz + sz ≤ arr.size ∧
      D.w = setBlk D1.w (D.φ k) (.cells (spl arr (es.length * sz) ys) T (0, 0)) ∧ D.σ = C.σ.set k (.cap (es.length + 1) sz) ∧ Ext C D1 ∧ Ext C D ∧ RelS D ∧ RelV D (.slo nl sz (es ++ [v]) k) (.slice (some ⟨D.φ k, 0, none⟩) (es.length + 1) c) := by
  obtain ⟨z, D1, hrun, hσ, hE, hD, hV, hG⟩ := aAppendOG_ok (P := P) (ty := ty) hS hp hq h hone'
  obtain ⟨e1, hcap⟩ := aAppendO_st h hone'
  rw [e1] at hσ
  obtain ⟨c, rfl, hc1, hc2, arr, T, hblk, hroom⟩ := hG.val
  have hylen := relL_length hys
  have hroom' : es.length * sz + sz ≤ arr.size := by
    have := Nat.le_trans (Nat.mul_le_mul_right sz hc1) hroom
    rw [Nat.add_mul] at this
    omega
  have hyl : ys.length = sz := by omega
  have hk1 : D1.σ[k]? = some (.cap (es.length + 1) sz) := by rw [hσ]; simp [get_lt hcap]
  obtain ⟨n0, hn0, _, hsz0, _, _⟩ := hp
  have hlimk : D1.lim k = some ((es.length + 1) * sz) := by
    rw [lim_of hk1]
    simp only [AO.lim]
    rw [if_neg (by omega)]
  have hone : ∀ w ∈ arr.toList, w.oneCell' = true := by
    obtain ⟨arr', T', g1, g2, g3⟩ := hD.cap k _ _ hk1 (by omega)
    rw [hblk] at g1
    cases g1
    exact g3
  let arr2 := spl arr (es.length * sz) ys
  have hsz2 : arr2.size = arr.size := spl_size (by omega)
  let D : Ctx := { D1 with w := setBlk D1.w (D1.φ k) (.cells arr2 T (0, 0)) }
  have hblk2 : D.w.heap[D1.φ k]? = some (.cells arr2 T (0, 0)) := setBlk_same _ _ _ (lt_of_heap hblk)
  have hoth : ∀ b, b ≠ D1.φ k → D.w.heap[b]? = D1.w.heap[b]? := fun b hb => setBlk_other _ _ _ _ hb
  have hsize : D.w.heap.size = D1.w.heap.size := setBlk_size _ _ _
  have hother : ∀ o, o ≠ k → (D1.lim o).isSome = true → D1.φ o ≠ D1.φ k := fun o hne ho e => hne (hD.inj o k ho (by rw [hlimk]; rfl) e)
  -- what was fixed
  have hfix : ∀ b off, C.FixC b off → b = D1.φ k → off < es.length * sz := by
    intro b off hf hb
    rcases hG.pl with ⟨hne, e⟩ | hfresh
    · refine hf.2 k _ ?_ (by rw [← e, hb])
      rw [lim_of hcap]
      simp only [AO.lim]
      rw [if_neg (fun e => hne (List.eq_nil_of_length_eq_zero e))]
    · have := hf.1
      omega
  have hExt : Ext C D := {
    size := by rw [hsize]; exact hE.size
    ids := hE.ids
    caps := hE.caps
    fixC := fun b off hf => by
      obtain ⟨g1, g2⟩ := hE.fixC b off hf
      refine ⟨?_, by rw [hsize]; exact g2.1, g2.2⟩
      rw [← g1]
      by_cases hb : b = D1.φ k
      · have hlt := hfix b off hf hb
        rw [hb, cell_of_row _ _ _ _ _ _ hblk2, cell_of_row _ _ _ _ _ _ hblk, spl_get (by omega), if_pos hlt]
      · exact cell_of_heap (hoth b hb)
    fixB := fun b hf => by
      obtain ⟨g1, g2⟩ := hE.fixB b hf
      have hb : b ≠ D1.φ k := fun e => by
        rcases hG.pl with ⟨hne, e2⟩ | hfresh
        · refine hf.2 k (es.length * sz) ?_ (by rw [← e2, e])
          rw [lim_of hcap]
          simp only [AO.lim]
          rw [if_neg (fun e => hne (List.eq_nil_of_length_eq_zero e))]
        · have := hf.1
          omega
      exact ⟨by rw [hoth b hb, g1], by rw [hsize]; exact g2.1, g2.2⟩
    shape := fun b ar U fr hb => by
      obtain ⟨ar', g1, g2⟩ := hE.shape b ar U fr hb
      by_cases hbk : b = D1.φ k
      · rw [hbk] at g1 ⊢
        rw [hblk] at g1
        cases g1
        exact ⟨arr2, hblk2, by rw [hsz2, g2]⟩
      · exact ⟨ar', by rw [hoth b hbk, g1], g2⟩
    dfr := fun o ho => by
      obtain ⟨g1, g2⟩ := hE.dfr o ho
      have hne : o ≠ k := fun e => by
        rw [e, hcap] at ho
        cases ho
      refine ⟨g1, ?_⟩
      rw [← g2]
      exact hoth _ (hother o hne (by rw [lim_of g1]; rfl))
    fresh := hE.fresh
    os := hE.os
    tape := hE.tape
    output := hE.output }
  have hRel : RelS D := by
    refine RelS.of (fun o a ho => ?_) (fun a b ha hb e => hD.inj a b ha hb e)
    by_cases hok : o = k
    · subst hok
      have ho' : D1.σ[o]? = some a := ho
      rw [hk1] at ho'
      cases ho'
      exact fun _ => ⟨arr2, T, hblk2, by rw [hsz2, Nat.add_mul]; omega, spl_one hone hy1⟩
    · have hoC : C.σ[o]? = some a := by
        have : D1.σ[o]? = some a := ho
        rw [hσ, List.getElem?_set] at this
        rw [if_neg (fun e => hok e.symm)] at this
        exact this
      refine (hS.good hoC).mono hExt (hG.φ o hok) (fun hs => ?_)
      have hl : (C.lim o).isSome = true := by rw [lim_of hoC]; exact hs
      have hl1 : (D1.lim o).isSome = true := by rw [lim_of (show D1.σ[o]? = some a from ho)]; exact hs
      have := hother o hok hl1
      rw [hG.φ o hok] at this
      rw [hoth _ this]
      exact hG.other o hok hl
  refine ⟨D1, D, c, arr, T, hrun, hD, rfl, rfl, hblk, hroom', rfl, hσ, hE, hExt, hRel, ?_⟩
  have hflat : (es.flatMap AV.cells).length = es.length * sz := flatC_len hes
  obtain ⟨xs, hxl, hxs⟩ := hG.old
  have hxlen : xs.length = es.length * sz := by rw [← relL_length hxl, hflat]
  have hfixD : ∀ j, j < (es.length + 1) * sz → D.FixC (D1.φ k) j := fun j hj => ⟨by rw [hsize]; exact lt_of_heap hblk, fun o l ho eo => by
    by_cases hok : o = k
    · subst hok
      have : D1.lim o = some l := ho
      rw [hlimk] at this
      cases this
      exact hj
    · exact absurd eo (hother o hok (by rw [show D1.lim o = some l from ho]; rfl))⟩
  refine ⟨es.length + 1, hk1, by simp, hsz0, fun e => by simp at e, fun _ => ?_⟩
  refine ⟨D1.φ k, 0, c, by simp [D], by simpa using hc1, hc2, fun _ => ⟨rfl, rfl, arr2, T, hblk2, by rw [hsz2]; exact hroom⟩, ?_⟩
  refine relRow_of (fun e he => ?_) ?_
  · rcases List.mem_append.1 he with he | he
    · exact hes e he
    · rw [List.mem_singleton.1 he]
      exact hvl
  · rw [List.flatMap_append]
    have hfl : ((es.flatMap AV.cells) ++ [v].flatMap AV.cells).length = (es.length + 1) * sz := by
      rw [List.length_append, hflat, Nat.add_mul]
      simp [hvl]
    refine relAt_of (xs := xs ++ ys) (RelL.mono hExt (relL_append hxl (by simpa using hys))) (fun j w hj => ?_) (fun j hj => hfixD _ (by omega))
    rw [Nat.zero_add, cell_of_row _ _ _ _ _ _ hblk2, spl_get (by omega)]
    by_cases hlt : j < es.length * sz
    · rw [List.getElem?_append_left (by omega)] at hj
      obtain ⟨g1, g2⟩ := hxs j w hj
      rw [cell_of_row _ _ _ _ _ _ hblk] at g1
      rw [if_pos hlt]
      exact ⟨g1, g2⟩
    · rw [List.getElem?_append_right (by omega), hxlen] at hj
      have hjl : j - es.length * sz < ys.length := (List.getElem?_eq_some_iff.1 hj).1
      rw [if_neg hlt, if_pos (by omega)]
      exact ⟨hj, hy1 w (List.mem_of_getElem? hj)⟩
end Go.Proofs.Ev

