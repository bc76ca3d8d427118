import Derived.Test.YteekpkbmkibacaaDoorDiagV
import Derived.Test.YteekpkbmkibacaaDoorDiagS
import Derived.Test.YteekpkbmkibacaaDoorEvSeqm
/-! Where blocks stand: which hangs on which. -/
namespace Go.Proofs.Tryd
set_option linter.unusedSimpArgs false
set_option linter.unusedVariables false
open Go Go.Proofs.Ev
namespace Gr
variable {Γ : List (Nat × List AV)}
def pos (s : Src) : Bool := decide (s.block ≥ 0)
def edsB (k : Nat) (b : Blk) : List (Nat × Int) := if b.kind == 4 then [] else (b.src.filter pos).map fun s => (k, s.block)
def edsF : Nat → List Blk → List (Nat × Int)
  | _, [] => []
  | k, b :: l => edsB k b ++ edsF (k + 1) l
def edO (l : List Blk) (i : Nat) : Nat := (edsF 0 (l.take i)).length
def edI (b : Blk) (j : Nat) : Nat := ((b.src.take j).filter pos).length
def e2 (p : Nat × Int) : List AV := [i64 (p.1 : Nat), i64 p.2]
theorem edsF_append : ∀ (l m : List Blk) (k : Nat), edsF k (l ++ m) = edsF k l ++ edsF (k + l.length) m
  | [], m, k => by simp [edsF]
  | b :: l, m, k => by
    rw [List.cons_append, edsF, edsF, edsF_append l m (k + 1), List.append_assoc, List.length_cons]
    congr 3
    omega
theorem edO_zero (l : List Blk) : edO l 0 = 0 := rfl
theorem edI_zero (b : Blk) : edI b 0 = 0 := rfl
theorem edO_all (l : List Blk) : edO l l.length = (edsF 0 l).length := by rw [edO, List.take_length]
theorem edO_skip {l : List Blk} {i : Nat} (hi : i < l.length) (h4 : l[i].kind = 4) : edO l (i + 1) = edO l i := by
  rw [edO, List.take_succ_eq_append_getElem hi, edsF_append]
  simp [edsF, edsB, h4, edO]
theorem edO_succ {l : List Blk} {i : Nat} (hi : i < l.length) (h4 : ¬ l[i].kind = 4) : edO l (i + 1) = edO l i + edI l[i] l[i].src.length := by
  rw [edO, List.take_succ_eq_append_getElem hi, edsF_append]
  simp [edsF, edsB, h4, edO, edI]
theorem edI_succ {b : Blk} {j : Nat} (hj : j < b.src.length) : edI b (j + 1) = edI b j + if pos b.src[j] = true then 1 else 0 := by
  rw [edI, List.take_succ_eq_append_getElem hj, List.filter_append, List.length_append]
  congr 1
  by_cases h : pos b.src[j] = true
  · simp [h]
  · simp [h]
theorem filter_at {α : Type} (p : α → Bool) : ∀ (l : List α) (j : Nat) (hj : j < l.length), p l[j] = true → (l.filter p)[((l.take j).filter p).length]? = some l[j]
  | a :: l, 0, _, h => by simp at h; simp [h]
  | a :: l, j + 1, hj, h => by
    have hj' : j < l.length := by simpa using hj
    have := filter_at p l j hj' (by simpa using h)
    simp only [List.take_succ_cons, List.filter_cons, List.getElem_cons_succ]
    split
    · simpa using this
    · exact this
theorem eds_at {l : List Blk} {i j : Nat} (hi : i < l.length) (h4 : ¬ l[i].kind = 4) (hj : j < l[i].src.length) (hp : pos l[i].src[j] = true) : ((edsF 0 l).map e2)[edO l i + edI l[i] j]? = some [i64 (i : Nat), i64 l[i].src[j].block] := by
  have e := congrArg (edsF 0) (List.take_append_drop i l)
  rw [edsF_append, List.drop_eq_getElem_cons hi, edsF, Nat.zero_add, List.length_take, Nat.min_eq_left (by omega)] at e
  rw [← e, List.getElem?_map, List.getElem?_append_right (by rw [edO]; omega)]
  have h1 : edO l i + edI l[i] j - (edsF 0 (l.take i)).length = edI l[i] j := by rw [edO]; omega
  rw [h1]
  have h2 := filter_at pos l[i].src j hj hp
  have h3 : edsB i l[i] = (l[i].src.filter pos).map fun s => (i, s.block) := by rw [edsB, if_neg (by simpa using h4)]
  rw [h3, List.getElem?_append_left (by rw [List.length_map]; exact (List.getElem?_eq_some_iff.1 h2).1), List.getElem?_map]
  unfold edI
  rw [h2]
  rfl
theorem edO_le (l : List Blk) (i : Nat) : edO l i ≤ (edsF 0 l).length := by
  have e := congrArg (fun l => (edsF 0 l).length) (List.take_append_drop i l)
  simp only [edsF_append, List.length_append] at e
  rw [edO]
  omega
theorem edI_le {l : List Blk} {i : Nat} (hi : i < l.length) (h4 : ¬ l[i].kind = 4) (j : Nat) : edO l i + edI l[i] j ≤ (edsF 0 l).length := by
  have h1 := edO_succ hi h4
  have h2 := edO_le l (i + 1)
  have h3 : edI l[i] j ≤ edI l[i] l[i].src.length := by
    have e := congrArg (fun m : List Src => (m.filter pos).length) (List.take_append_drop j l[i].src)
    simp only [List.filter_append, List.length_append] at e
    simp only [edI, List.take_length]
    omega
  omega
theorem shut_app {S : Nat → Sto} {k j : Nat} {τ : Sto} (hs : Shut (S 0).length (S k)) (hl : ∀ k, (S k).length = (S 0).length) : ∀ (i : Nat) (a : AO), (S k ++ τ)[i]? = some a → (S j ++ τ)[i]? = some a ∨ a.bel (S j ++ τ).length = true := by
  intro i a hi
  rcases Nat.lt_or_ge i (S k).length with h | h
  · rw [List.getElem?_append_left h] at hi
    exact .inr (bel_le (by simp [hl j]) (hs i a hi))
  · rw [List.getElem?_append_right h] at hi
    rw [List.getElem?_append_right (by rw [hl j, ← hl k]; exact h), hl j, ← hl k]
    exact .inl hi
theorem row_b {α : Type} {en : α → AV} (h : ∀ a n, (en a).bel n = true) (sz n : Nat) (nl : Bool) (l : List α) : (rowAV sz nl (l.map en)).bel n = true := by
  cases l with
  | nil => cases nl <;> rfl
  | cons a l => exact belL_map en (a :: l) fun e _ => h e n
theorem src_b (s : Src) (n : Nat) : s.enc.bel n = true := rfl
theorem blk_b (b : Blk) (n : Nat) : b.enc.bel n = true := by simp [Blk.enc, AV.bel, belL, row_b src_b]
theorem blk_ob (b : Blk) (n : Nat) : AO.bel n (.cells b.enc.cells) = true := by simp [Blk.enc, AV.cells, AO.bel, belL, AV.bel, row_b src_b]
set_option maxRecDepth 100000 in
theorem edges_fn (σ : Sto) (d : Dgm) : ACalls prog Γ 97 [d.enc] σ (fun v σ' => v = .fn 109 [.ref σ.length 0] ∧ σ' = σ ++ [.cells d.enc.cells]) := by
  refine ACalls.of func97 rfl ?_
  simp only [ntmps97, List.length_cons, List.length_nil, Nat.reduceAdd, Nat.reduceSub, List.replicate_succ, List.replicate_zero, List.cons_append, List.nil_append]
  refine AW.regl false [1, 2] (by rfl) fun K1 hK1 => ?_ -- region 0
  simp only [go_sem, Nat.reduceAdd, Nat.reduceEqDiff, Nat.reduceLeDiff, true_and, src_get, blk_get, dgm_get, blk_all, src_all, dgm_all, List.length_map, len_row, one_row, List.drop_zero]
  refine hK1 _ _ ?_; try clear hK1 K1
  conv => enter [5]; simp only [setL_cons, setL_nil, List.set_cons_zero, List.set_cons_succ]
  refine AW.regl false [2] (by rfl) fun K2 hK2 => ?_ -- region 1
  simp only [go_sem, Nat.reduceAdd, Nat.reduceEqDiff, Nat.reduceLeDiff, true_and, src_get, blk_get, dgm_get, blk_all, src_all, dgm_all, List.length_map, len_row, one_row, List.drop_zero]
  refine hK2 _ _ ?_; try clear hK2 K2
  conv => enter [5]; simp only [setL_cons, setL_nil, List.set_cons_zero, List.set_cons_succ]
  exact AW.ret ⟨.inr rfl, _, rfl, rfl, rfl⟩

set_option maxRecDepth 100000 in
theorem edges_step (d : Dgm) (hd : d.small) (oy oc : Nat) (S : Nat → Sto) (I : Nat → Prop) (X : Sto → Prop) (hI : I 0) (hS : ∀ j, (S j).length = (S 0).length) (hsh : ∀ j, j ≤ (edsF 0 d.blocks).length → Shut (S 0).length (S j)) (h1 : (S 0)[oc]? = some (.cells d.enc.cells)) (hY : AYields prog Γ oy S I X ((edsF 0 d.blocks).map e2)) (ho : oy < (S 0).length) :
    ACalls prog Γ 109 [.yl oy, .ref oc 0] (S 0) (fun v σ' => v.bel 0 = true ∧ ∃ ρ, (I (edsF 0 d.blocks).length ∧ σ' = S (edsF 0 d.blocks).length ++ ρ) ∨ (∃ σx, X σx ∧ σ' = σx ++ ρ)) := by
  refine ACalls.of func109 rfl ?_
  simp only [ntmps109, List.length_cons, List.length_nil, Nat.reduceAdd, Nat.reduceSub, List.replicate_succ, List.replicate_zero, List.cons_append, List.nil_append]
  have hll : d.blocks.length ≤ maxLen := by rw [maxLen_eq]; have := hd.2.2.1; omega
  have hat : ∀ j (x : Sto), (S j ++ x)[(S 0).length]? = x[0]? := fun j x => by rw [← hS j, app_get0]
  have hat1 : ∀ j (x : Sto), (S j ++ x)[(S 0).length + 1]? = x[1]? := fun j x => by rw [← hS j, app_get]
  refine AW.scope ?_
  refine AW.seq_k fun K1 hK1 => ?_
  refine AW.label ?_
  refine hK1 _ _ ?_; try clear hK1 K1
  refine AW.regl false [8, 9, 10] (by rfl) fun K2 hK2 => ?_ -- region 0
  simp only [go_sem, Nat.reduceAdd, Nat.reduceEqDiff, Nat.reduceLeDiff, true_and, src_get, blk_get, dgm_get, blk_all, src_all, dgm_all, List.length_map, len_row, one_row, List.drop_zero, Src.enc, hat, hat1, h1, dgm_cells, List.drop_succ_cons]
  refine hK2 _ _ ?_; try clear hK2 K2
  conv => enter [5]; simp only [setL_cons, setL_nil, List.set_cons_zero, List.set_cons_succ]
  refine AW.block ?_
  refine AW.loop_dr (α := Nat) (fun i => [(.yl oy), .any, .any, .any, .any, .any, .any, .any, (rowAV 7 d.nlB (d.blocks.map Blk.enc)), (i64 d.blocks.length), (.val (.int .i64 ((i : Nat) : Int))), .any, .any, .any, .any, .any, .any, .any, .any, .any, .any, .any, .any, .any, .any, .any, .any, .any, .any, .any, .any, .any, .any, .any, .any, .any, .any, .any]) (fun i => S (edO d.blocks i)) (fun i => d.blocks.length - i) (fun i => i ≤ d.blocks.length ∧ I (edO d.blocks i)) 0 ?_ ?_ ?_
  · exact ⟨⟨Nat.zero_le _, hI⟩, by simp [Wk], rfl⟩
  · refine fun y hy => ⟨?_, ?_⟩
    · simp [belL, AV.bel, row_b blk_b, hS (edO d.blocks 0)]
      omega
    · have := shut_app (τ := []) (j := edO d.blocks 0) (hsh _ (edO_le d.blocks y)) hS
      simpa [edO_zero] using this
  · rintro i ⟨hi, hit⟩
    refine AW.regl false [11] (by rfl) fun K3 hK3 => ?_ -- region 1
    simp only [go_sem, Nat.reduceAdd, Nat.reduceEqDiff, Nat.reduceLeDiff, true_and, src_get, blk_get, dgm_get, blk_all, src_all, dgm_all, List.length_map, len_row, one_row, List.drop_zero, Src.enc, hat, hat1, h1]
    refine hK3 _ _ ?_; try clear hK3 K3
    conv => enter [5]; simp only [setL_cons, setL_nil, List.set_cons_zero, List.set_cons_succ]
    refine AW.seq_k fun K4 hK4 => ?_
    refine AW.cond rfl (fun hc11 => ?_) (fun hc11 => ?_)
    · skip
      have hi1 : i < d.blocks.length := by simpa using hc11
      obtain ⟨b, hb⟩ : ∃ z, z = d.blocks[i] := ⟨_, rfl⟩
      have hx : (d.blocks.map Blk.enc)[i]? = some (Blk.enc b) := by rw [hb, List.getElem?_map, List.getElem?_eq_getElem hi1]; rfl
      have hlb : b.src.length ≤ maxLen := by rw [maxLen_eq]; have := hd.2.2.2.2 b (by rw [hb]; exact List.getElem_mem hi1); omega
      refine AW.skip ?_
      refine hK4 _ _ ?_; try clear hK4 K4
      refine AW.seq_k fun K5 hK5 => ?_
      refine AW.block ?_
      refine AW.regl false [4, 3] (by rfl) fun K6 hK6 => ?_ -- region 2
      simp only [go_sem, Nat.reduceAdd, Nat.reduceEqDiff, Nat.reduceLeDiff, true_and, src_get, blk_get, dgm_get, blk_all, src_all, dgm_all, List.length_map, len_row, one_row, List.drop_zero, Src.enc, hat, hat1, h1, at_row hx]
      refine hK6 _ _ ?_; try clear hK6 K6
      conv => enter [5]; simp only [setL_cons, setL_nil, List.set_cons_zero, List.set_cons_succ, upd_none, upd_at]
      refine AW.seq_k fun K7 hK7 => ?_
      refine AW.regl false [17] (by rfl) fun K8 hK8 => ?_ -- region 3
      simp only [go_sem, Nat.reduceAdd, Nat.reduceEqDiff, Nat.reduceLeDiff, true_and, src_get, blk_get, dgm_get, blk_all, src_all, dgm_all, List.length_map, len_row, one_row, List.drop_zero, Src.enc, hat, hat1, h1, Blk.enc]
      refine hK8 _ _ ?_; try clear hK8 K8
      conv => enter [5]; simp only [setL_cons, setL_nil, List.set_cons_zero, List.set_cons_succ]
      refine AW.cond rfl (fun hc17 => ?_) (fun hc17 => ?_)
      · skip
        have hk4 : b.kind = 4 := by simpa using hc17
        have ho2 : edO d.blocks (i + 1) = edO d.blocks i := edO_skip hi1 (by rw [← hb]; exact hk4)
        refine AW.exit ?_
        refine hK5 _ _ ?_; try clear hK5 K5
        refine AW.lastl false [10] (by rfl) fun K hK => ?_ -- region 9
        simp only [go_sem, Nat.reduceAdd, Nat.reduceEqDiff, Nat.reduceLeDiff, true_and, src_get, blk_get, dgm_get, blk_all, src_all, dgm_all, List.length_map, len_row, one_row, List.drop_zero, Src.enc, hat, hat1, h1]
        refine hK _ _ fun env' hw => ?_
        simp only [setL_cons, setL_nil, List.set_cons_zero, List.set_cons_succ] at hw
        refine ⟨i + 1, by omega, ⟨by omega, by rw [ho2]; assumption⟩, ?_, ?_⟩
        · refine hw.trans ?_
          simp [Wk, wrap_succ hi1 hll]
        · rw [ho2]
          simp [hS]
      · skip
        have hk4 : ¬ b.kind = 4 := by simpa using hc17
        refine AW.skip ?_
        refine hK7 _ _ ?_; try clear hK7 K7
        refine AW.regl false [19, 20, 21] (by rfl) fun K9 hK9 => ?_ -- region 4
        simp only [go_sem, Nat.reduceAdd, Nat.reduceEqDiff, Nat.reduceLeDiff, true_and, src_get, blk_get, dgm_get, blk_all, src_all, dgm_all, List.length_map, len_row, one_row, List.drop_zero, Src.enc, hat, hat1, h1, Blk.enc]
        refine hK9 _ _ ?_; try clear hK9 K9
        conv => enter [5]; simp only [setL_cons, setL_nil, List.set_cons_zero, List.set_cons_succ]
        refine AW.block ?_
        refine AW.loop_dr (α := Nat) (fun j => [(.yl oy), .any, .any, (i64 (i : Nat)), .any, .any, .any, .any, (rowAV 7 d.nlB (d.blocks.map Blk.enc)), (i64 d.blocks.length), (i64 (i : Nat)), .any, .any, .any, .any, .any, .any, .any, .any, (rowAV 2 b.nl (b.src.map Src.enc)), (i64 b.src.length), (.val (.int .i64 ((j : Nat) : Int))), .any, .any, .any, .any, .any, .any, .any, .any, .any, .any, .any, .any, .any, .any, .any, .any]) (fun j => S (edO d.blocks i + edI b j) ++ [.cells b.enc.cells]) (fun j => b.src.length - j) (fun j => j ≤ b.src.length ∧ I (edO d.blocks i + edI b j)) 0 ?_ ?_ ?_
        · exact ⟨⟨Nat.zero_le _, by rw [edI_zero]; exact hit⟩, by simp [Wk], rfl⟩
        · refine fun y hy => ⟨?_, ?_⟩
          · simp [belL, AV.bel, row_b blk_b, row_b src_b]
            rw [hS]
            omega
          · exact shut_app (hsh _ (by rw [hb]; exact edI_le hi1 (by rw [← hb]; exact hk4) y)) hS
        · rintro j ⟨hj, hjt⟩
          refine AW.regl false [22] (by rfl) fun K10 hK10 => ?_ -- region 5
          simp only [go_sem, Nat.reduceAdd, Nat.reduceEqDiff, Nat.reduceLeDiff, true_and, src_get, blk_get, dgm_get, blk_all, src_all, dgm_all, List.length_map, len_row, one_row, List.drop_zero, Src.enc, hat, hat1, h1]
          refine hK10 _ _ ?_; try clear hK10 K10
          conv => enter [5]; simp only [setL_cons, setL_nil, List.set_cons_zero, List.set_cons_succ]
          refine AW.seq_k fun K11 hK11 => ?_
          refine AW.cond rfl (fun hc22 => ?_) (fun hc22 => ?_)
          · skip
            have hj1 : j < b.src.length := by simpa using hc22
            obtain ⟨s, hs⟩ : ∃ z, z = b.src[j] := ⟨_, rfl⟩
            have hxj : (b.src.map Src.enc)[j]? = some (Src.enc s) := by rw [hs, List.getElem?_map, List.getElem?_eq_getElem hj1]; rfl
            have hcj : edI b (j + 1) = edI b j + if pos s = true then 1 else 0 := by rw [hs]; exact edI_succ hj1
            have hxs : s.block ≥ 0 → ((edsF 0 d.blocks).map e2)[edO d.blocks i + edI b j]? = some [i64 (i : Nat), i64 s.block] := fun hp => by
              subst hb
              subst hs
              exact eds_at hi1 hk4 hj1 (by simpa [pos] using hp)
            refine AW.skip ?_
            refine hK11 _ _ ?_; try clear hK11 K11
            refine AW.seq_k fun K12 hK12 => ?_
            refine AW.block ?_
            refine AW.regl false [6] (by rfl) fun K13 hK13 => ?_ -- region 6
            simp only [go_sem, Nat.reduceAdd, Nat.reduceEqDiff, Nat.reduceLeDiff, true_and, src_get, blk_get, dgm_get, blk_all, src_all, dgm_all, List.length_map, len_row, one_row, List.drop_zero, Src.enc, hat, hat1, h1, at_row hxj]
            refine hK13 _ _ ?_; try clear hK13 K13
            conv => enter [5]; simp only [setL_cons, setL_nil, List.set_cons_zero, List.set_cons_succ, upd_none, upd_at]
            have hcase : ∀ K : Bool → Sto → Prop, True := fun _ => trivial
            refine AW.seqm (α := Bool) (fun b35 => [(.yl oy), .any, .any, (.val (.int .i64 ((i : Nat) : Int))), .any, .any, .any, .any, (rowAV 7 d.nlB (d.blocks.map Blk.enc)), (.val (.int .i64 ((d.blocks.length : Nat) : Int))), (.val (.int .i64 ((i : Nat) : Int))), .any, .any, .any, .any, .any, .any, .any, .any, (rowAV 2 b.nl (b.src.map Src.enc)), (.val (.int .i64 ((b.src.length : Nat) : Int))), (.val (.int .i64 ((j : Nat) : Int))), .any, .any, .any, .any, .any, .any, .any, .any, .any, .any, .any, .any, .any, (.val (.bool b35)), .any, .any]) (fun b35 σ' => (b35 = false ∧ I (edO d.blocks i + edI b (j + 1)) ∧ σ' = S (edO d.blocks i + edI b (j + 1)) ++ [.cells b.enc.cells, .cells s.enc.cells]) ∨ (b35 = true ∧ ∃ σx, X σx ∧ σ' = σx ++ [.cells b.enc.cells, .cells s.enc.cells])) ?_ ?_ -- region 7
            · by_cases hp1 : s.block ≥ 0
              · have hy := hY _ _ (hxs hp1) hjt [.cells b.enc.cells, .cells s.enc.cells]
                refine AW.lastl false [35] (by rfl) fun K hK => ?_
                simp only [go_sem, Nat.reduceAdd, Nat.reduceEqDiff, Nat.reduceLeDiff, true_and, src_get, blk_get, dgm_get, blk_all, src_all, dgm_all, List.length_map, len_row, one_row, List.drop_zero, Src.enc, hat, hat1, hp1, decide_true, decide_false]
                refine sC.yield hy (fun b7 σ7 hR7 => ?_)
                simp only [go_sem, Nat.reduceAdd, Nat.reduceEqDiff, Nat.reduceLeDiff, true_and, src_get, blk_get, dgm_get, blk_all, src_all, dgm_all, List.length_map, len_row, one_row, List.drop_zero, Src.enc, hat, hat1, hp1, decide_true, decide_false]
                refine hK _ _ fun env' hw => ⟨rfl, !b7, by simp only [setL_cons, setL_nil, List.set_cons_zero, List.set_cons_succ] at hw; exact hw.trans (by simp [Wk]), ?_⟩
                rw [hcj, if_pos (by simpa [pos] using hp1), ← Nat.add_assoc]
                rcases hR7 with ⟨rfl, h1, h2⟩ | ⟨rfl, h2⟩
                · exact .inl ⟨rfl, h1, h2⟩
                · exact .inr ⟨rfl, h2⟩
              · refine AW.lastl false [35] (by rfl) fun K hK => ?_
                simp only [go_sem, Nat.reduceAdd, Nat.reduceEqDiff, Nat.reduceLeDiff, true_and, src_get, blk_get, dgm_get, blk_all, src_all, dgm_all, List.length_map, len_row, one_row, List.drop_zero, Src.enc, hat, hat1, hp1, decide_true, decide_false]
                refine hK _ _ fun env' hw => ⟨rfl, false, by simp only [setL_cons, setL_nil, List.set_cons_zero, List.set_cons_succ] at hw; exact hw.trans (by simp [Wk]), ?_⟩
                rw [hcj, if_neg (by simpa [pos] using hp1), Nat.add_zero]
                exact .inl ⟨rfl, hjt, rfl⟩
            intro b35 σ35 hR35
            refine AW.cond rfl (fun hc35 => ?_) (fun hc35 => ?_)
            · skip
              have hb35 : b35 = true := by simpa using hc35
              subst hb35
              rcases hR35 with ⟨h, _⟩ | ⟨_, σx, hx, rfl⟩
              · cases h
              refine AW.exit ?_
              exact ⟨.inl rfl, _, rfl, rfl, _, .inr ⟨σx, hx, rfl⟩⟩
            · skip
              have hb35 : b35 = false := by simpa using hc35
              subst hb35
              rcases hR35 with ⟨_, hI2, rfl⟩ | ⟨h, _⟩
              rotate_left
              · cases h
              refine AW.skip ?_
              refine hK12 _ _ ?_; try clear hK12 K12
              refine AW.lastl false [21] (by rfl) fun K hK => ?_ -- region 8
              simp only [go_sem, Nat.reduceAdd, Nat.reduceEqDiff, Nat.reduceLeDiff, true_and, src_get, blk_get, dgm_get, blk_all, src_all, dgm_all, List.length_map, len_row, one_row, List.drop_zero, Src.enc, hat, hat1, h1]
              refine hK _ _ fun env' hw => ?_
              simp only [setL_cons, setL_nil, List.set_cons_zero, List.set_cons_succ] at hw
              refine ⟨j + 1, by omega, ⟨by omega, hI2⟩, ?_, ?_⟩
              · refine hw.trans ?_
                simp [Wk, wrap_succ hj1 hlb]
              · simp only [List.length_append, List.length_cons, List.length_nil, hS (edO d.blocks i)]
                rw [← hS (edO d.blocks i + edI b (j + 1))]
                simp [List.take_append, List.take_of_length_le]
          · skip
            have hj1 : j = b.src.length := by
              have : ¬ j < b.src.length := by simpa using hc22
              omega
            have ho2 : edO d.blocks (i + 1) = edO d.blocks i + edI b j := by rw [hj1]; subst hb; exact edO_succ hi1 hk4
            refine AW.exit ?_
            refine hK5 _ _ ?_; try clear hK5 K5
            refine AW.lastl false [10] (by rfl) fun K hK => ?_ -- region 9
            simp only [go_sem, Nat.reduceAdd, Nat.reduceEqDiff, Nat.reduceLeDiff, true_and, src_get, blk_get, dgm_get, blk_all, src_all, dgm_all, List.length_map, len_row, one_row, List.drop_zero, Src.enc, hat, hat1, h1]
            refine hK _ _ fun env' hw => ?_
            simp only [setL_cons, setL_nil, List.set_cons_zero, List.set_cons_succ] at hw
            refine ⟨i + 1, by omega, ⟨by omega, by rw [ho2]; assumption⟩, ?_, ?_⟩
            · refine hw.trans ?_
              simp [Wk, wrap_succ hi1 hll]
            · rw [ho2]
              simp [hS]
    · skip
      have hi1 : i = d.blocks.length := by
        have : ¬ i < d.blocks.length := by simpa using hc11
        omega
      refine AW.exit ?_
      refine ⟨.inl rfl, _, rfl, rfl, [], .inl ⟨?_, ?_⟩⟩
      · rw [hi1, edO_all] at hit
        exact hit
      · rw [hi1, edO_all, List.append_nil]

theorem edges_iter (d : Dgm) (hd : d.small) (oc : Nat) (σ : Sto) (h1 : σ[oc]? = some (.cells d.enc.cells)) : AIter prog Γ 109 [.ref oc 0] σ ((edsF 0 d.blocks).map e2) := by
  intro o S I X hI hpre ho hl hsh hX hY
  obtain ⟨τ0, hτ0⟩ := hpre
  rw [List.length_map] at hsh ⊢
  refine ACalls.trunc (edges_step d hd o oc S I X hI hl hsh (by rw [hτ0]; exact getL h1 _) hY ho) ?_
  rintro v σ' ⟨hv, ρ, ⟨hIe, rfl⟩ | ⟨σx, hx, rfl⟩⟩
  · exact ⟨S _, ρ, rfl, hl _, fun i a hi => .inr (hsh _ (Nat.le_refl _) i a hi), AV.bel_up (Nat.zero_le _) hv, .inl ⟨hIe, rfl⟩⟩
  · obtain ⟨g1, g2⟩ := hX σx hx
    exact ⟨σx, ρ, rfl, g1, fun i a hi => .inr (g2 i a hi), AV.bel_up (Nat.zero_le _) hv, .inr hx⟩
end Gr
end Go.Proofs.Tryd
/-! Columns. -/
namespace Go.Proofs.Tryd
set_option linter.unusedSimpArgs false
set_option linter.unusedVariables false
open Go Go.Proofs.Ev
namespace Gr
variable {Γ : List (Nat × List AV)}
def rel (c : List Nat) (e : Nat × Int) : Bool := decide (e.2 < (c.length : Int)) && decide (c.getD e.1 0 ≤ c.getD e.2.toNat 0)
def stp (c : List Nat) (e : Nat × Int) : List Nat := if rel c e = true then c.set e.1 (c.getD e.2.toNat 0 + 1) else c
def pas (c : List Nat) (es : List (Nat × Int)) : List Nat := es.foldl stp c
def chg : List Nat → List (Nat × Int) → Bool
  | _, [] => false
  | c, e :: es => rel c e || chg (stp c e) es
theorem stp_len (c : List Nat) (e : Nat × Int) : (stp c e).length = c.length := by
  unfold stp
  split <;> simp
theorem pas_len (es : List (Nat × Int)) : ∀ c : List Nat, (pas c es).length = c.length := by
  induction es with
  | nil => exact fun _ => rfl
  | cons e es ih =>
    intro c
    show (pas (stp c e) es).length = _
    rw [ih, stp_len]
theorem pas_snoc (c : List Nat) (es : List (Nat × Int)) (e : Nat × Int) : pas c (es ++ [e]) = stp (pas c es) e := by simp [pas]
theorem chg_append : ∀ (es fs : List (Nat × Int)) (c : List Nat), chg c (es ++ fs) = (chg c es || chg (pas c es) fs)
  | [], fs, c => by simp [chg, pas]
  | e :: es, fs, c => by
    rw [List.cons_append, chg, chg, chg_append es fs (stp c e), Bool.or_assoc]
    rfl
theorem chg_snoc (c : List Nat) (es : List (Nat × Int)) (e : Nat × Int) : chg c (es ++ [e]) = (chg c es || rel (pas c es) e) := by
  rw [chg_append]
  simp [chg]
theorem pas_same : ∀ (es : List (Nat × Int)) (c : List Nat), chg c es = false → pas c es = c
  | [], _, _ => rfl
  | e :: es, c, h => by
    simp only [chg, Bool.or_eq_false_iff] at h
    have hs : stp c e = c := by unfold stp; rw [if_neg (by rw [h.1]; simp)]
    show pas (stp c e) es = c
    rw [hs] at h ⊢
    exact pas_same es c h.2
theorem chg_all : ∀ (es : List (Nat × Int)) (c : List Nat), chg c es = false → ∀ e ∈ es, rel c e = false
  | [], _, _, e, he => by cases he
  | e :: es, c, h, d, hd => by
    simp only [chg, Bool.or_eq_false_iff] at h
    have hs : stp c e = c := by unfold stp; rw [if_neg (by rw [h.1]; simp)]
    rw [hs] at h
    rcases List.mem_cons.1 hd with rfl | hd
    · exact h.1
    · exact chg_all es c h.2 d hd
/-- No number is greater than m. -/
def top (c : List Nat) (m : Nat) : Prop := ∀ x ∈ c, x ≤ m
theorem top_getD {c : List Nat} {m : Nat} (h : top c m) (i : Nat) : c.getD i 0 ≤ m := by
  rw [List.getD_eq_getElem?_getD]
  cases hg : c[i]? with
  | none => exact Nat.zero_le _
  | some x => exact h x (List.mem_of_getElem? hg)
theorem top_stp {c : List Nat} {m : Nat} (h : top c m) (e : Nat × Int) : top (stp c e) (m + 1) := by
  unfold stp
  split
  · intro x hx
    rcases List.mem_or_eq_of_mem_set hx with hx | rfl
    · have := h x hx
      omega
    · have := top_getD h e.2.toNat
      omega
  · exact fun x hx => Nat.le_succ_of_le (h x hx)
theorem top_pas (es : List (Nat × Int)) : ∀ {c : List Nat} {m : Nat}, top c m → top (pas c es) (m + es.length) := by
  induction es with
  | nil => exact fun h => h
  | cons e es ih =>
    intro c m h
    have := ih (top_stp h e)
    rw [List.length_cons, show m + (es.length + 1) = m + 1 + es.length by omega]
    exact this
/-- The rounds. -/
def rnd (es : List (Nat × Int)) (c : List Nat) : Nat → List Nat
  | 0 => c
  | r + 1 => pas (rnd es c r) es
theorem rnd_len (es : List (Nat × Int)) (c : List Nat) : ∀ r, (rnd es c r).length = c.length
  | 0 => rfl
  | r + 1 => by rw [rnd, pas_len, rnd_len es c r]
theorem rnd_top (es : List (Nat × Int)) {c : List Nat} (h : top c 0) : ∀ r, top (rnd es c r) (r * es.length)
  | 0 => by rw [Nat.zero_mul]; exact h
  | r + 1 => by
    have := top_pas es (rnd_top es h r)
    rw [Nat.add_mul, Nat.one_mul]
    exact this
def colsGo (es : List (Nat × Int)) : Nat → List Nat → Option (List Nat)
  | 0, _ => none
  | f + 1, c => if chg c es = true then colsGo es f (pas c es) else some c
def cols (d : Dgm) : Option (List Nat) := colsGo (edsF 0 d.blocks) (d.blocks.length + 2) (List.replicate d.blocks.length 0)
theorem colsGo_rnd (es : List (Nat × Int)) (c : List Nat) (f : Nat) : ∀ r, (∀ q, q < r → chg (rnd es c q) es = true) → colsGo es (f + r) c = colsGo es f (rnd es c r) := by
  intro r
  induction r generalizing f with
  | zero => exact fun _ => rfl
  | succ r ih =>
    intro h
    rw [show f + (r + 1) = f + 1 + r by omega, ih (f + 1) fun q hq => h q (by omega), colsGo, if_pos (h r (by omega))]
    rfl
theorem cols_some {d : Dgm} {r : Nat} (hr : r ≤ d.blocks.length + 1) (h : ∀ q, q < r → chg (rnd (edsF 0 d.blocks) (List.replicate d.blocks.length 0) q) (edsF 0 d.blocks) = true) (hn : chg (rnd (edsF 0 d.blocks) (List.replicate d.blocks.length 0) r) (edsF 0 d.blocks) = false) :
    cols d = some (rnd (edsF 0 d.blocks) (List.replicate d.blocks.length 0) r) := by
  have := colsGo_rnd (edsF 0 d.blocks) (List.replicate d.blocks.length 0) (d.blocks.length + 2 - r) r h
  rw [cols, show d.blocks.length + 2 = d.blocks.length + 2 - r + r by omega, this, show d.blocks.length + 2 - r = (d.blocks.length + 1 - r) + 1 by omega, colsGo, if_neg (by rw [hn]; simp)]
theorem cols_none {d : Dgm} (h : ∀ q, q < d.blocks.length + 2 → chg (rnd (edsF 0 d.blocks) (List.replicate d.blocks.length 0) q) (edsF 0 d.blocks) = true) : cols d = none := by
  have := colsGo_rnd (edsF 0 d.blocks) (List.replicate d.blocks.length 0) 0 (d.blocks.length + 2) h
  rw [Nat.zero_add] at this
  rw [cols, this]
  rfl
theorem colsGo_good (es : List (Nat × Int)) : ∀ (f : Nat) (c : List Nat) (m : Nat) {o : List Nat}, top c m → colsGo es f c = some o → o.length = c.length ∧ top o (m + f * es.length) ∧ ∀ e ∈ es, rel o e = false
  | 0, _, _, _, _, h => by cases h
  | f + 1, c, m, o, ht, h => by
    rw [colsGo] at h
    split at h
    · obtain ⟨h1, h2, h3⟩ := colsGo_good es f (pas c es) (m + es.length) (top_pas es ht) h
      refine ⟨by rw [h1, pas_len], ?_, h3⟩
      rw [Nat.add_mul, Nat.one_mul, show m + (f * es.length + es.length) = m + es.length + f * es.length by omega]
      exact h2
    · rename_i hc
      cases h
      refine ⟨rfl, fun x hx => Nat.le_trans (ht x hx) (Nat.le_add_right _ _), chg_all es c (by simpa using hc)⟩
theorem edsB_len (k : Nat) (b : Blk) (h : b.src.length ≤ 40) : (edsB k b).length ≤ 40 := by
  unfold edsB
  split
  · exact Nat.zero_le _
  · rw [List.length_map]
    exact Nat.le_trans (List.length_filter_le _ _) h
theorem edsF_len : ∀ (l : List Blk) (k : Nat), (∀ b ∈ l, b.src.length ≤ 40) → (edsF k l).length ≤ 40 * l.length
  | [], _, _ => Nat.zero_le _
  | b :: l, k, h => by
    have h1 := edsB_len k b (h b List.mem_cons_self)
    have h2 := edsF_len l (k + 1) fun b hb => h b (List.mem_cons_of_mem _ hb)
    rw [edsF, List.length_append, List.length_cons]
    omega
theorem edsF_mem : ∀ {l : List Blk} {k : Nat} {e : Nat × Int}, e ∈ edsF k l → k ≤ e.1 ∧ e.1 < k + l.length ∧ 0 ≤ e.2
  | b :: l, k, e, h => by
    rw [edsF, List.mem_append] at h
    rcases h with h | h
    · unfold edsB at h
      split at h
      · cases h
      · obtain ⟨s, hs, rfl⟩ := List.mem_map.1 h
        have := (List.mem_filter.1 hs).2
        simp only [pos, decide_eq_true_eq] at this
        simp only [List.length_cons]
        exact ⟨by omega, by omega, this⟩
    · obtain ⟨h1, h2, h3⟩ := edsF_mem h
      simp only [List.length_cons]
      exact ⟨by omega, by omega, h3⟩
theorem eds_mem {l : List Blk} {i : Nat} {s : Src} (hi : i < l.length) (h4 : ¬ l[i].kind = 4) (hs : s ∈ l[i].src) (hp : s.block ≥ 0) : (i, s.block) ∈ edsF 0 l := by
  obtain ⟨j, hj, rfl⟩ := List.mem_iff_getElem.1 hs
  have := eds_at hi h4 hj (by simpa [pos] using hp)
  rw [List.getElem?_map] at this
  obtain ⟨p, hp1, hp2⟩ := Option.map_eq_some_iff.1 this
  have hm := List.mem_of_getElem? hp1
  obtain ⟨a, b⟩ := p
  simp only [e2, List.cons.injEq, AV.val.injEq, Value.int.injEq, true_and, and_true] at hp2
  obtain ⟨h1, h2⟩ := hp2
  have h1 : a = i := by omega
  subst h1
  subst h2
  exact hm
theorem bel_app' {n : Nat} {l l' : Sto} (σ : Sto) (h : ∀ (i : Nat) x, l'[i]? = some x → l[i]? = some x ∨ x.bel n = true) : ∀ (i : Nat) x, (σ ++ l')[i]? = some x → (σ ++ l)[i]? = some x ∨ x.bel n = true := fun i x hx => by
  rw [List.getElem?_append] at hx ⊢
  split at hx
  · rename_i hi
    rw [if_pos hi]
    exact .inl hx
  · rename_i hi
    rw [if_neg hi]
    exact h _ x hx
theorem bel_cons {n : Nat} {l l' : Sto} (a : AO) (h : ∀ (i : Nat) x, l'[i]? = some x → l[i]? = some x ∨ x.bel n = true) : ∀ (i : Nat) x, (a :: l')[i]? = some x → (a :: l)[i]? = some x ∨ x.bel n = true := bel_app' [a] h
theorem bel_new {n : Nat} {l l' : Sto} (a0 : AO) {a : AO} (ha : a.bel n = true) (h : ∀ (i : Nat) x, l'[i]? = some x → l[i]? = some x ∨ x.bel n = true) : ∀ (i : Nat) x, (a :: l')[i]? = some x → (a0 :: l)[i]? = some x ∨ x.bel n = true := fun i x hx => by
  cases i with
  | zero =>
    simp only [List.getElem?_cons_zero, Option.some.injEq] at hx
    subst hx
    exact .inr ha
  | succ i => exact h i x hx
theorem row_bel1 (n : Nat) (c : List Nat) : AO.bel n (.cells (c.map fun x => i64 (x : Nat))) = true := belL_map _ _ fun _ _ => rfl
theorem aZ (v : AV) (j : Nat) : aZeros [v] j = List.replicate j v := by
  simp only [aZeros, List.length_singleton, Nat.mod_one, List.getD_cons_zero]
  exact List.map_const' ..  |>.trans (by simp)
abbrev C0 (d : Dgm) : List Nat := List.replicate d.blocks.length 0
abbrev ints (c : List Nat) : List AV := c.map fun x => i64 (x : Nat)
theorem mkI {n : Nat} (hn : n ≤ 200) (σ : Sto) (k k1 : IntKind) : aMakeSlice prog σ 136 (.val (.int k (n : Nat))) (.val (.int k1 (n : Nat))) = some (.osl σ.length 0 n 1, σ ++ [.cells (ints (List.replicate n 0))]) := by
  rw [mk136, if_pos ⟨by omega, by simp [fits]; omega⟩, Int.toNat_natCast, Nat.mul_one, aZ, ints, List.map_replicate]
  rfl
theorem at_ints {o n : Nat} {k : IntKind} {i : Nat} (h : i < n) : aAt 1 (.osl o 0 n 1) (.val (.int k (i : Nat))) = some (.ref o i) := by
  simp [aAt]
  omega
theorem dr_ints {c : List Nat} {i : Nat} (h : i < c.length) : (ints c).drop i = i64 (c.getD i 0 : Nat) :: (ints c).drop (i + 1) := by
  rw [List.drop_eq_getElem_cons (by simpa using h)]
  simp [List.getD_eq_getElem?_getD, h]
theorem spl_ints {c : List Nat} {i : Nat} (h : i < c.length) (v : Nat) : aSplice (ints c) i [i64 (v : Nat)] = ints (c.set i v) := by
  apply List.ext_getElem?
  intro j
  simp only [aSplice, List.append_assoc, List.getElem?_append, List.length_take, List.length_map]
  rw [Nat.min_eq_left (by omega)]
  simp only [List.getElem?_map, List.getElem?_set, List.getElem?_take, List.getElem?_drop, List.length_singleton]
  by_cases h1 : j < i
  · simp [h1, show ¬ i = j by omega]
  · by_cases h2 : j = i
    · subst h2
      simp [h]
    · simp [h1, show ¬ i = j by omega, show ¬ j - i < 1 by omega]
      congr 2
      omega
theorem spl2 {c : List Nat} {i : Nat} (h : i < c.length) (v : Nat) : (ints c).take i ++ i64 (v : Nat) :: (ints c).drop (i + 1) = ints (c.set i v) := by
  rw [← spl_ints h v, aSplice, List.append_assoc]
  rfl
theorem look5 (σ τ : Sto) (x y z u v : AO) : (σ ++ (x :: y :: z :: (τ ++ [u, v])))[σ.length + (τ.length + 4)]? = some v := by
  rw [app_get]
  show (τ ++ [u, v])[τ.length + 1]? = some v
  rw [app_get]
  rfl
theorem look1 (σ : Sto) (x y : AO) (l : Sto) : (σ ++ (x :: y :: l))[σ.length + 1]? = some y := by
  rw [app_get]
  rfl
theorem take_snoc {es : List (Nat × Int)} {k : Nat} {e : Nat × Int} (h : es[k]? = some e) : es.take (k + 1) = es.take k ++ [e] := by
  obtain ⟨hk, rfl⟩ := List.getElem?_eq_some_iff.1 h
  exact List.take_succ_eq_append_getElem hk
theorem ints_flat (c : List Nat) : (ints c).flatMap AV.cells = ints c := by
  induction c with
  | nil => rfl
  | cons x c ih =>
    show i64 (x : Nat) :: (ints c).flatMap AV.cells = _
    rw [ih]
    rfl
theorem frz_ints {n o : Nat} {σ : Sto} {c : List Nat} {l : Nat} (ho : n ≤ o) (h : σ[o]? = some (.cells (ints c))) (hl : l = c.length) : Frz n σ (.osl o 0 l 1) (.sl 1 (ints c)) := by
  subst hl
  refine .row ho h (by simp) ?_ (by simp) (fun e he => by obtain ⟨x, _, rfl⟩ := List.mem_map.1 he; rfl)
  rw [List.drop_zero, Nat.mul_one, List.take_of_length_le (by simp), ints_flat]
  exact FrzL.keep (belL_map _ _ fun _ _ => rfl)
set_option maxRecDepth 100000 in
theorem columns_calls (d : Dgm) (hd : d.small) : APure prog Γ 69 [d.enc] (match cols d with | some c => .tup [.sl 1 (ints c), i64 0] | none => .tup [.nilsl, i64 9]) := by
  refine APure.ofM func69 rfl fun σ => ?_
  simp only [ntmps69, List.length_cons, List.length_nil, Nat.reduceAdd, Nat.reduceSub, List.replicate_succ, List.replicate_zero, List.cons_append, List.nil_append]
  have hn : d.blocks.length ≤ 200 := hd.2.2.1
  refine AW.regl false [1, 2, 3] (by rfl) fun K1 hK1 => ?_ -- region 0
  simp only [go_sem, Nat.reduceAdd, Nat.reduceEqDiff, Nat.reduceLeDiff, true_and, src_get, blk_get, dgm_get, blk_all, src_all, dgm_all, List.length_map, len_row, one_row, List.drop_zero]
  refine hK1 _ _ ?_; try clear hK1 K1
  conv => enter [5]; simp only [setL_cons, setL_nil, List.set_cons_zero, List.set_cons_succ]
  refine AW.regl false [4] (by rfl) fun K2 hK2 => ?_ -- region 1
  simp only [go_sem, Nat.reduceAdd, Nat.reduceEqDiff, Nat.reduceLeDiff, true_and, src_get, blk_get, dgm_get, blk_all, src_all, dgm_all, List.length_map, len_row, one_row, List.drop_zero, dgm_cells, mkI hn]
  refine hK2 _ _ ?_; try clear hK2 K2
  conv => enter [5]; simp only [setL_cons, setL_nil, List.set_cons_zero, List.set_cons_succ, upd_none, upd_at]
  refine AW.regl false [5] (by rfl) fun K3 hK3 => ?_ -- region 2
  simp only [go_sem, Nat.reduceAdd, Nat.reduceEqDiff, Nat.reduceLeDiff, true_and, src_get, blk_get, dgm_get, blk_all, src_all, dgm_all, List.length_map, len_row, one_row, List.drop_zero]
  refine hK3 _ _ ?_; try clear hK3 K3
  conv => enter [5]; simp only [setL_cons, setL_nil, List.set_cons_zero, List.set_cons_succ]
  refine AW.block ?_
  -- LIVE but not told: [17, 18]
  refine AW.loop_wk (α := Nat × Sto) (fun z => [.any, (.ref σ.length 0), .any, .any, (.ref (σ.length + 2) 0), (i64 (z.1 : Nat)), .any, .any, .any, .any, .any, .any, .any, .any, .any, .any, .any, .any, .any, .any, .any, .any, .any, .any, .any, .any, .any, .any, .any, .any, .any, .any, .any, .any, .any, .any, .any, .any, .any, .any, .any, .any, .any, .any, .any, .any, .any, .any, .any]) (fun z => σ ++ (.cells d.enc.cells :: .cells (ints (rnd (edsF 0 d.blocks) (C0 d) z.1)) :: .cells [.osl (σ.length + 1) 0 d.blocks.length 1] :: z.2)) (fun z => d.blocks.length + 2 - z.1) (fun z => z.1 ≤ d.blocks.length + 1 ∧ ∀ q, q < z.1 → chg (rnd (edsF 0 d.blocks) (C0 d) q) (edsF 0 d.blocks) = true) (0, []) ?_ ?_
  · exact ⟨⟨Nat.zero_le _, fun q hq => by omega⟩, by simp [Wk], rfl⟩
  · rintro ⟨r, τ⟩ ⟨hr, hq⟩
    refine AW.seq_k fun K4 hK4 => ?_
    refine AW.block ?_
    refine AW.regl false [6] (by rfl) fun K5 hK5 => ?_ -- region 4
    simp only [go_sem, Nat.reduceAdd, Nat.reduceEqDiff, Nat.reduceLeDiff, true_and, src_get, blk_get, dgm_get, blk_all, src_all, dgm_all, List.length_map, len_row, one_row, List.drop_zero]
    refine hK5 _ _ ?_; try clear hK5 K5
    conv => enter [5]; simp only [setL_cons, setL_nil, List.set_cons_zero, List.set_cons_succ, upd_none, upd_at]
    refine AW.seq_k fun K6 hK6 => ?_
    refine AW.regl false [16] (by rfl) fun K7 hK7 => ?_ -- region 5
    simp only [go_sem, Nat.reduceAdd, Nat.reduceEqDiff, Nat.reduceLeDiff, true_and, src_get, blk_get, dgm_get, blk_all, src_all, dgm_all, List.length_map, len_row, one_row, List.drop_zero]
    refine sC.ofR en97 (edges_fn _ d) (fun v' σ' hR => ?_)
    obtain ⟨rfl, rfl⟩ := hR
    simp only [go_sem, Nat.reduceAdd, Nat.reduceEqDiff, Nat.reduceLeDiff, true_and, src_get, blk_get, dgm_get, blk_all, src_all, dgm_all, List.length_map, len_row, one_row, List.drop_zero]
    refine hK7 _ _ ?_; try clear hK7 K7
    conv => enter [5]; simp only [setL_cons, setL_nil, List.set_cons_zero, List.set_cons_succ]
    refine AW.block ?_
    refine AW.range (f := 109) (caps := [.ref (σ.length + (τ.length + 4)) 0]) (σ0 := (fun j => σ ++ (.cells d.enc.cells :: .cells (ints (pas (rnd (edsF 0 d.blocks) (C0 d) r) ((edsF 0 d.blocks).take j))) :: .cells [.osl (σ.length + 1) 0 d.blocks.length 1] :: (τ ++ [.cells [.val (.bool (chg (rnd (edsF 0 d.blocks) (C0 d) r) ((edsF 0 d.blocks).take j)))], .cells d.enc.cells]))) 0) (xs := (edsF 0 d.blocks).map e2) (fun j => σ ++ (.cells d.enc.cells :: .cells (ints (pas (rnd (edsF 0 d.blocks) (C0 d) r) ((edsF 0 d.blocks).take j))) :: .cells [.osl (σ.length + 1) 0 d.blocks.length 1] :: (τ ++ [.cells [.val (.bool (chg (rnd (edsF 0 d.blocks) (C0 d) r) ((edsF 0 d.blocks).take j)))], .cells d.enc.cells]))) (fun _ => True) (fun _ _ => False) ?_ en109 ?_ ?_ ?_ ?_ ?_ ?_ ?_ ?_ ?_ ?_ ?_
    · rfl
    · exact edges_iter d hd _ _ (look5 _ _ _ _ _ _ _)
    · exact trivial
    · exact ⟨[], by simp⟩
    · exact by simp
    · exact fun _ => by simp
    · exact fun j _ => bel_app' σ (bel_cons _ (bel_new _ (row_bel1 _ _) (bel_cons _ (bel_app' τ (bel_new _ rfl bel_one)))))
    · exact fun _ _ h => h.elim
    · exact fun x hx => by obtain ⟨p, _, rfl⟩ := List.mem_map.1 hx; rfl
    · intro lp k x hx hI τ
      have hk0 : k < (edsF 0 d.blocks).length := by have := (List.getElem?_eq_some_iff.1 hx).1; simpa using this
      rw [List.getElem?_map] at hx
      obtain ⟨⟨a, b⟩, hp, rfl⟩ := Option.map_eq_some_iff.1 hx
      obtain ⟨m1, m2, m3⟩ := edsF_mem (List.mem_of_getElem? hp)
      simp only at m1 m2 m3
      obtain ⟨q, rfl⟩ := Int.eq_ofNat_of_zero_le m3
      have hpl : (pas (rnd (edsF 0 d.blocks) (C0 d) r) ((edsF 0 d.blocks).take k)).length = d.blocks.length := by rw [pas_len, rnd_len, List.length_replicate]
      have ha : a < d.blocks.length := by omega
      have ha1 : a + 1 ≤ d.blocks.length := ha
      have hat := at_ints (o := σ.length + 1) (k := .i64) ha
      have hda := dr_ints (c := (pas (rnd (edsF 0 d.blocks) (C0 d) r) ((edsF 0 d.blocks).take k))) (i := a) (by omega)
      have htk := take_snoc hp
      simp only [e2]
      simp only [envp, List.set_cons_zero, List.set_cons_succ]
      conv => enter [6]; simp only [List.append_assoc, List.cons_append, List.nil_append, List.append_nil]
      refine AW.regl false [7] (by rfl) fun K8 hK8 => ?_ -- region 6
      simp only [go_sem, Nat.reduceAdd, Nat.reduceEqDiff, Nat.reduceLeDiff, true_and, src_get, blk_get, dgm_get, blk_all, src_all, dgm_all, List.length_map, len_row, one_row, List.drop_zero]
      refine hK8 _ _ ?_; try clear hK8 K8
      conv => enter [5]; simp only [setL_cons, setL_nil, List.set_cons_zero, List.set_cons_succ]
      refine AW.lastl false [8] (by rfl) fun K hK => ?_ -- region 7
      simp only [go_sem, Nat.reduceAdd, Nat.reduceEqDiff, Nat.reduceLeDiff, true_and, src_get, blk_get, dgm_get, blk_all, src_all, dgm_all, List.length_map, len_row, one_row, List.drop_zero]
      refine hK _ _ fun env' hw => ?_
      simp only [setL_cons, setL_nil, List.set_cons_zero, List.set_cons_succ] at hw
      refine ⟨rfl, [], by simp, fun τ' hτ => ?_⟩
      refine AW.weaken hw ?_
      conv => enter [6]; simp only [List.append_assoc, List.cons_append, List.nil_append, List.append_nil]
      refine AW.block ?_
      refine AW.regtdf mixed false 33 (.val (.bool (rel (pas (rnd (edsF 0 d.blocks) (C0 d) r) ((edsF 0 d.blocks).take k)) (a, (q : Int))))) (by kernel_rfl) (by rfl) ?_ ?_ -- region 8
      · by_cases hql : (q : Int) < (d.blocks.length : Int)
        · have hql' : q < d.blocks.length := by omega
          have haq := at_ints (o := σ.length + 1) (k := .i64) hql'
          have hdq := dr_ints (c := (pas (rnd (edsF 0 d.blocks) (C0 d) r) ((edsF 0 d.blocks).take k))) (i := q) (by omega)
          simp only [go_sem, Nat.reduceAdd, Nat.reduceEqDiff, Nat.reduceLeDiff, true_and, src_get, blk_get, dgm_get, blk_all, src_all, dgm_all, List.length_map, len_row, one_row, List.drop_zero, hql, decide_true, hat, haq, hda, hdq]
          simp [rel, hpl, hql']
        · simp only [go_sem, Nat.reduceAdd, Nat.reduceEqDiff, Nat.reduceLeDiff, true_and, src_get, blk_get, dgm_get, blk_all, src_all, dgm_all, List.length_map, len_row, one_row, List.drop_zero, hql, decide_false]
          simp [rel, hpl]
          omega
      conv => enter [5]; simp only [List.set_cons_zero, List.set_cons_succ]
      refine AW.cond rfl (fun hc33 => ?_) (fun hc33 => ?_)
      · skip
        have hc0 := hc33
        simp only [rel, Bool.and_eq_true, decide_eq_true_eq, hpl, Int.toNat_natCast] at hc0
        obtain ⟨hql, _⟩ := hc0
        have hql' : q < d.blocks.length := by omega
        have haq := at_ints (o := σ.length + 1) (k := .i64) hql'
        have hdq := dr_ints (c := (pas (rnd (edsF 0 d.blocks) (C0 d) r) ((edsF 0 d.blocks).take k))) (i := q) (by omega)
        have hE : (edsF 0 d.blocks).length ≤ 8000 := by have := edsF_len d.blocks 0 hd.2.2.2.2; omega
        have hb1 : r * (edsF 0 d.blocks).length ≤ 201 * 8000 := Nat.mul_le_mul (by simp only at hr; omega) hE
        have ht := top_getD (top_pas ((edsF 0 d.blocks).take k) (rnd_top (edsF 0 d.blocks) (c := C0 d) (fun x hx => by have := List.eq_of_mem_replicate hx; omega) r)) q
        rw [List.length_take] at ht
        have hwr : IntKind.wrap .i64 ((((pas (rnd (edsF 0 d.blocks) (C0 d) r) ((edsF 0 d.blocks).take k)).getD q 0 : Nat) : Int) + 1) = (((pas (rnd (edsF 0 d.blocks) (C0 d) r) ((edsF 0 d.blocks).take k)).getD q 0 + 1 : Nat) : Int) := wrap_add1 (by omega)
        refine AW.regml mixed false [] 8 (by kernel_rfl) (by kernel_rfl) (by rfl) fun K10 hK10 => ?_ -- region 9
        simp only [go_sem, Nat.reduceAdd, Nat.reduceEqDiff, Nat.reduceLeDiff, true_and, src_get, blk_get, dgm_get, blk_all, src_all, dgm_all, List.length_map, len_row, one_row, List.drop_zero, hat, haq, hda, hdq, hwr, spl2 (c := (pas (rnd (edsF 0 d.blocks) (C0 d) r) ((edsF 0 d.blocks).take k))) (i := a) (by omega) ((pas (rnd (edsF 0 d.blocks) (C0 d) r) ((edsF 0 d.blocks).take k)).getD q 0 + 1), ha1, if_true, List.length_map, hpl]
        refine hK10 _ _ ?_; try clear hK10 K10
        conv => enter [5]; simp only [setL_cons, setL_nil, List.set_cons_zero, List.set_cons_succ, upd_none, upd_at]
        refine AW.lastl false [] (by rfl) fun K hK => ?_ -- region 10
        simp only [go_sem, Nat.reduceAdd, Nat.reduceEqDiff, Nat.reduceLeDiff, true_and, src_get, blk_get, dgm_get, blk_all, src_all, dgm_all, List.length_map, len_row, one_row, List.drop_zero]
        refine hK _ _ fun env' hw => ?_
        simp only [setL_cons, setL_nil, List.set_cons_zero, List.set_cons_succ] at hw
        exact ⟨trivial, [], by simp [htk, pas_snoc, chg_snoc, stp, hc33]⟩
      · skip
        have hc33 : rel (pas (rnd (edsF 0 d.blocks) (C0 d) r) ((edsF 0 d.blocks).take k)) (a, (q : Int)) = false := by simpa using hc33
        refine AW.skip ?_
        exact ⟨trivial, [], by simp [htk, pas_snoc, chg_snoc, stp, hc33]⟩
    · intro hI lp2 env2
      skip
      refine hK6 _ _ ?_; try clear hK6 K6
      refine AW.seq_k fun K11 hK11 => ?_
      conv => enter [6]; simp only [List.append_assoc, List.cons_append, List.nil_append, List.length_map, List.take_length]
      refine AW.regl false [43] (by rfl) fun K12 hK12 => ?_ -- region 11
      simp only [go_sem, Nat.reduceAdd, Nat.reduceEqDiff, Nat.reduceLeDiff, true_and, src_get, blk_get, dgm_get, blk_all, src_all, dgm_all, List.length_map, len_row, one_row, List.drop_zero]
      refine hK12 _ _ ?_; try clear hK12 K12
      conv => enter [5]; simp only [setL_cons, setL_nil, List.set_cons_zero, List.set_cons_succ]
      refine AW.cond rfl (fun hc43 => ?_) (fun hc43 => ?_)
      · skip
        have hch : chg (rnd (edsF 0 d.blocks) (C0 d) r) (edsF 0 d.blocks) = false := by simpa using hc43
        refine AW.regl false [2, 3] (by rfl) fun K13 hK13 => ?_ -- region 12
        simp only [go_sem, Nat.reduceAdd, Nat.reduceEqDiff, Nat.reduceLeDiff, true_and, src_get, blk_get, dgm_get, blk_all, src_all, dgm_all, List.length_map, len_row, one_row, List.drop_zero]
        refine hK13 _ _ ?_; try clear hK13 K13
        conv => enter [5]; simp only [setL_cons, setL_nil, List.set_cons_zero, List.set_cons_succ]
        refine AW.ret ⟨.inr rfl, _, rfl, by simp, ?_⟩ -- return 1
        rw [cols_some hr hq hch, pas_same _ _ hch]
        exact .tup (.cons (frz_ints (by omega) (look1 _ _ _ _) (by rw [rnd_len, List.length_replicate])) (.cons (.keep rfl) .nil))
      · skip
        have hch : chg (rnd (edsF 0 d.blocks) (C0 d) r) (edsF 0 d.blocks) = true := by simpa using hc43
        refine AW.skip ?_
        refine hK11 _ _ ?_; try clear hK11 K11
        refine AW.regl false [48] (by rfl) fun K14 hK14 => ?_ -- region 13
        simp only [go_sem, Nat.reduceAdd, Nat.reduceEqDiff, Nat.reduceLeDiff, true_and, src_get, blk_get, dgm_get, blk_all, src_all, dgm_all, List.length_map, len_row, one_row, List.drop_zero]
        refine hK14 _ _ ?_; try clear hK14 K14
        conv => enter [5]; simp only [setL_cons, setL_nil, List.set_cons_zero, List.set_cons_succ]
        refine AW.cond rfl (fun hc48 => ?_) (fun hc48 => ?_)
        · skip
          have hgt : d.blocks.length < r := by simpa using hc48
          refine AW.regl false [2, 3] (by rfl) fun K15 hK15 => ?_ -- region 14
          simp only [go_sem, Nat.reduceAdd, Nat.reduceEqDiff, Nat.reduceLeDiff, true_and, src_get, blk_get, dgm_get, blk_all, src_all, dgm_all, List.length_map, len_row, one_row, List.drop_zero]
          refine hK15 _ _ ?_; try clear hK15 K15
          conv => enter [5]; simp only [setL_cons, setL_nil, List.set_cons_zero, List.set_cons_succ]
          refine AW.ret ⟨.inr rfl, _, rfl, by simp, ?_⟩ -- return 2
          rw [cols_none (d := d) fun q hq1 => by
            rcases Nat.lt_or_ge q r with h | h
            · exact hq q h
            · rw [show q = r by simp only at hr; omega]
              exact hch]
          exact .keep rfl
        · skip
          have hle : r ≤ d.blocks.length := by simpa using hc48
          refine AW.skip ?_
          refine hK4 _ _ ?_; try clear hK4 K4
          refine AW.lastl false [5] (by rfl) fun K hK => ?_ -- region 3
          simp only [go_sem, Nat.reduceAdd, Nat.reduceEqDiff, Nat.reduceLeDiff, true_and, src_get, blk_get, dgm_get, blk_all, src_all, dgm_all, List.length_map, len_row, one_row, List.drop_zero]
          refine hK _ _ fun env' hw => ?_
          simp only [setL_cons, setL_nil, List.set_cons_zero, List.set_cons_succ] at hw
          exact ⟨(r + 1, _), by simp only; omega, ⟨by simp only; omega, fun q hq1 => by
            rcases Nat.lt_or_ge q r with h | h
            · exact hq q h
            · rw [show q = r by omega]
              exact hch⟩, hw.trans (by simp [Wk, wrap_add1 (a := r) (by omega)]), rfl⟩
    · exact fun _ _ h => h.elim

def awB : Blk := ⟨4, 0, 0, 0, 0, 0, false, [⟨1, 0⟩]⟩
def awC : Blk := ⟨3, 11, 0, 0, 0, 0, false, [⟨0, 0⟩, ⟨0, 0⟩]⟩
def awD : Dgm := ⟨⟨#[]⟩, true, [], true, [], false, [awB, awC]⟩
theorem awD_small : awD.small := by
  refine ⟨by decide, by decide, by decide, by decide, fun b hb => ?_⟩
  simp only [awD, List.mem_cons, List.not_mem_nil, or_false] at hb
  rcases hb with rfl | rfl <;> decide
theorem awD_cols : cols awD = some [0, 1] := by kernel_rfl
theorem awD_enc : awD.enc = .agg [str ⟨#[]⟩, .nilsl, .nilsl, .sl 7 [.agg [i64 4, i64 0, i64 0, i64 0, .val (.int .i32 0), .val (.int .i32 0), .sl 2 [.agg [i64 1, i64 0]]], .agg [i64 3, i64 11, i64 0, i64 0, .val (.int .i32 0), .val (.int .i32 0), .sl 2 [.agg [i64 0, i64 0], .agg [i64 0, i64 0]]]]] := rfl
theorem row2_70 (σ : Sto) (u v : AV) (h1 : u.cells.length = 2) (h2 : u.cells.all AV.one = true) (h3 : v.cells.length = 2) (h4 : v.cells.all AV.one = true) : aRow prog false σ 70 2 [(0, u), (1, v)] = some (.sl 2 [u, v], σ) := by
  exact aRow_sl (by kernel_rfl) (by decide) (row70 (by decide) (by decide) rfl (by intro p hp; simp only [List.mem_cons, List.not_mem_nil, or_false] at hp; rcases hp with rfl | rfl; exact ⟨h1, h2⟩; exact ⟨h3, h4⟩)) σ
theorem row2_32 (σ : Sto) (u v : AV) (h1 : u.cells.length = 7) (h2 : u.cells.all AV.one = true) (h3 : v.cells.length = 7) (h4 : v.cells.all AV.one = true) : aRow prog false σ 32 2 [(0, u), (1, v)] = some (.sl 7 [u, v], σ) := by
  exact aRow_sl (by kernel_rfl) (by decide) (row32 (by decide) (by decide) rfl (by intro p hp; simp only [List.mem_cons, List.not_mem_nil, or_false] at hp; rcases hp with rfl | rfl; exact ⟨h1, h2⟩; exact ⟨h3, h4⟩)) σ
theorem atI0 : aAt 1 (.sl 1 (ints [0, 1])) (.val (.int .i64 0)) = some (.er [i64 0]) := rfl
theorem atI1 : aAt 1 (.sl 1 (ints [0, 1])) (.val (.int .i64 1)) = some (.er [i64 1]) := rfl
theorem lenI : aLenSl (.sl 1 (ints [0, 1])) = some (i64 2) := rfl
theorem exI0 (c : List Nat) (e : AV) : aExtract 0 (.tup [.sl 1 (ints c), e]) = some (.sl 1 (ints c)) := rfl
theorem exI1 (c : List Nat) (e : AV) : aExtract 1 (.tup [.sl 1 (ints c), e]) = some e := rfl

set_option maxRecDepth 100000 in
theorem gawake_calls  : APure prog Γ 39 [] (.val (.bool true)) := by
  refine APure.of func39 rfl fun σ => ?_
  simp only [ntmps39, List.length_cons, List.length_nil, Nat.reduceAdd, Nat.reduceSub, List.replicate_succ, List.replicate_zero, List.cons_append, List.nil_append]
  have hc := columns_calls (Γ := Γ) awD awD_small
  rw [awD_cols, awD_enc] at hc
  refine AW.regl false [0] (by rfl) fun K1 hK1 => ?_ -- region 0
  simp only [go_sem, Nat.reduceAdd, Nat.reduceEqDiff, Nat.reduceLeDiff, true_and, row2_70, row2_32, atI0, atI1, lenI, exI0, exI1]
  refine hK1 _ _ ?_; try clear hK1 K1
  conv => enter [5]; simp only [setL_cons, setL_nil, List.set_cons_zero, List.set_cons_succ]
  refine AW.regl false [1] (by rfl) fun K2 hK2 => ?_ -- region 1
  simp only [go_sem, Nat.reduceAdd, Nat.reduceEqDiff, Nat.reduceLeDiff, true_and, row2_70, row2_32, atI0, atI1, lenI, exI0, exI1]
  refine hK2 _ _ ?_; try clear hK2 K2
  conv => enter [5]; simp only [setL_cons, setL_nil, List.set_cons_zero, List.set_cons_succ, upd_none, upd_at]
  refine AW.regl false [2, 3] (by rfl) fun K3 hK3 => ?_ -- region 2
  simp only [go_sem, Nat.reduceAdd, Nat.reduceEqDiff, Nat.reduceLeDiff, true_and, row2_70, row2_32, atI0, atI1, lenI, exI0, exI1]
  refine sC.of en69 (hc.on _).here (by rfl) ?_
  simp only [go_sem, Nat.reduceAdd, Nat.reduceEqDiff, Nat.reduceLeDiff, true_and, row2_70, row2_32, atI0, atI1, lenI, exI0, exI1]
  refine hK3 _ _ ?_; try clear hK3 K3
  conv => enter [5]; simp only [setL_cons, setL_nil, List.set_cons_zero, List.set_cons_succ]
  refine AW.regl false [0] (by rfl) fun K4 hK4 => ?_
  simp only [go_sem, Nat.reduceAdd, Nat.reduceEqDiff, Nat.reduceLeDiff, true_and, atI0, atI1, lenI, exI0, exI1, BEq.rfl, beq_self_eq_true, if_true, Bool.true_and]
  refine hK4 _ _ ?_; try clear hK4 K4
  conv => enter [5]; simp only [setL_cons, setL_nil, List.set_cons_zero, List.set_cons_succ]
  refine AW.ret ⟨.inr rfl, _, rfl, by simp, ?_⟩ -- return 1
  exact .keep rfl
end Gr
end Go.Proofs.Tryd
