import Derived.Test.YteekpkbmkibacaaDoorDiagM
/-! Diagrams: what the program's functions come to. -/
namespace Go.Proofs.Tryd
set_option linter.unusedSimpArgs false
set_option linter.unusedVariables false
open Go Go.Proofs.Ev
variable {Γ : List (Nat × List AV)}
set_option maxRecDepth 100000 in
theorem results_calls (f : FileM) (b : Blk) : APure prog Γ 29 [f.enc, b.enc] (.val (.int .i64 (f.results b))) := by
  refine APure.of func29 rfl fun σ => ?_
  simp only [ntmps29, List.length_cons, List.length_nil, Nat.reduceAdd, Nat.reduceSub, List.replicate_succ, List.replicate_zero, List.cons_append, List.nil_append]
  obtain ⟨kind, op, sub, bn, bx, by', nl, src⟩ := b
  obtain ⟨fnl, ds⟩ := f
  refine AW.regl false [2, 3, 4] (by rfl) fun K1 hK1 => ?_ -- region 0
  simp only [go_sem, Nat.reduceAdd, Nat.reduceEqDiff, Nat.reduceLeDiff, true_and, FileM.enc, Blk.enc, List.length_map]
  refine hK1 _ _ ?_; try clear hK1 K1
  conv => enter [5]; simp only [setL_cons, setL_nil, List.set_cons_zero, List.set_cons_succ]
  refine AW.seq_k fun K2 hK2 => ?_
  refine AW.block ?_
  refine AW.regtf false 5 (.val (.bool (decide (kind < 0) || decide (kind > 7)))) (by rfl) ?_ ?_ -- region 1
  · skip
    cases h8 : (decide (kind < 0))
    · skip
      simp only [go_sem, Nat.reduceAdd, Nat.reduceEqDiff, Nat.reduceLeDiff, true_and, FileM.enc, Blk.enc, List.length_map, h8]
      try simp [upd_at, h8, FileM.enc, Blk.enc, List.length_map]
    · skip
      simp only [go_sem, Nat.reduceAdd, Nat.reduceEqDiff, Nat.reduceLeDiff, true_and, FileM.enc, Blk.enc, List.length_map, h8]
      try simp [upd_at, h8, FileM.enc, Blk.enc, List.length_map]
  conv => enter [5]; simp only [List.set_cons_zero, List.set_cons_succ]
  refine AW.cond rfl (fun hc5 => ?_) (fun hc5 => ?_)
  · skip
    refine AW.regl false [4] (by rfl) fun K4 hK4 => ?_ -- region 2
    simp only [go_sem, Nat.reduceAdd, Nat.reduceEqDiff, Nat.reduceLeDiff, true_and, FileM.enc, Blk.enc, List.length_map]
    refine hK4 _ _ ?_; try clear hK4 K4
    conv => enter [5]; simp only [setL_cons, setL_nil, List.set_cons_zero, List.set_cons_succ]
    refine AW.ret ⟨.inr rfl, _, rfl, by simp, ?_⟩ -- return 1
    simp only [FileM.results]
    rw [if_pos hc5]
    exact .keep rfl
  · skip
    refine AW.regl false [14] (by rfl) fun K5 hK5 => ?_ -- region 3
    simp only [go_sem, Nat.reduceAdd, Nat.reduceEqDiff, Nat.reduceLeDiff, true_and, FileM.enc, Blk.enc, List.length_map]
    refine hK5 _ _ ?_; try clear hK5 K5
    conv => enter [5]; simp only [setL_cons, setL_nil, List.set_cons_zero, List.set_cons_succ]
    refine AW.cond rfl (fun hc14 => ?_) (fun hc14 => ?_)
    · skip
      refine AW.regl false [4] (by rfl) fun K6 hK6 => ?_ -- region 4
      simp only [go_sem, Nat.reduceAdd, Nat.reduceEqDiff, Nat.reduceLeDiff, true_and, FileM.enc, Blk.enc, List.length_map]
      refine hK6 _ _ ?_; try clear hK6 K6
      conv => enter [5]; simp only [setL_cons, setL_nil, List.set_cons_zero, List.set_cons_succ]
      refine AW.ret ⟨.inr rfl, _, rfl, by simp, ?_⟩ -- return 2
      simp only [FileM.results]
      rw [if_neg (ne_true_of_eq_false hc5), if_pos hc14]
      exact .keep rfl
    · skip
      refine AW.regtf false 18 (.val (.bool (decide (sub < 0) || decide (sub ≥ (ds.length : Int))))) (by rfl) ?_ ?_ -- region 5
      · skip
        cases h21 : (decide (sub < 0))
        · skip
          simp only [go_sem, Nat.reduceAdd, Nat.reduceEqDiff, Nat.reduceLeDiff, true_and, FileM.enc, Blk.enc, List.length_map, h21]
          try simp [upd_at, h21, FileM.enc, Blk.enc, List.length_map]
        · skip
          simp only [go_sem, Nat.reduceAdd, Nat.reduceEqDiff, Nat.reduceLeDiff, true_and, FileM.enc, Blk.enc, List.length_map, h21]
          try simp [upd_at, h21, FileM.enc, Blk.enc, List.length_map]
      conv => enter [5]; simp only [List.set_cons_zero, List.set_cons_succ]
      refine AW.cond rfl (fun hc18 => ?_) (fun hc18 => ?_)
      · skip
        refine AW.regl false [4] (by rfl) fun K8 hK8 => ?_ -- region 6
        simp only [go_sem, Nat.reduceAdd, Nat.reduceEqDiff, Nat.reduceLeDiff, true_and, FileM.enc, Blk.enc, List.length_map]
        refine hK8 _ _ ?_; try clear hK8 K8
        conv => enter [5]; simp only [setL_cons, setL_nil, List.set_cons_zero, List.set_cons_succ]
        refine AW.ret ⟨.inr rfl, _, rfl, by simp, ?_⟩ -- return 3
        simp only [FileM.results]
        rw [if_neg (ne_true_of_eq_false hc5), if_neg (ne_true_of_eq_false hc14), if_pos hc18]
        exact .keep rfl
      · skip
        have h0 : ¬ sub < 0 ∧ sub < ds.length := by simpa using hc18
        obtain ⟨j, rfl⟩ := Int.eq_ofNat_of_zero_le (by omega : 0 ≤ sub)
        have hj : j < ds.length := by omega
        have hx : (ds.map Dgm.enc)[j]? = some (ds[j]).enc := by simp [hj]
        refine AW.skip ?_
        refine hK2 _ _ ?_; try clear hK2 K2
        refine AW.regl false [4] (by rfl) fun K9 hK9 => ?_ -- region 7
        simp only [go_sem, Nat.reduceAdd, Nat.reduceEqDiff, Nat.reduceLeDiff, true_and, FileM.enc, Blk.enc, List.length_map, at_row hx, Dgm.enc]
        refine hK9 _ _ ?_; try clear hK9 K9
        conv => enter [5]; simp only [setL_cons, setL_nil, List.set_cons_zero, List.set_cons_succ]
        refine AW.ret ⟨.inr rfl, _, rfl, by simp, ?_⟩ -- return 4
        simp only [FileM.results]
        rw [if_neg (ne_true_of_eq_false hc5), if_neg (ne_true_of_eq_false hc14), if_neg (ne_true_of_eq_false hc18)]
        simp only [Int.toNat_natCast, List.getElem?_eq_getElem hj]
        exact .keep rfl

set_option maxRecDepth 100000 in
theorem source_calls (f : FileM) (d : Dgm) (s : Src) : APure prog Γ 83 [f.enc, d.enc, s.enc] (.val (.bool (f.source d s))) := by
  refine APure.of func83 rfl fun σ => ?_
  simp only [ntmps83, List.length_cons, List.length_nil, Nat.reduceAdd, Nat.reduceSub, List.replicate_succ, List.replicate_zero, List.cons_append, List.nil_append]
  obtain ⟨block, port⟩ := s
  obtain ⟨name, nlI, ins, nlO, outs, nlB, blocks⟩ := d
  refine AW.regl false [3, 4, 5, 6] (by rfl) fun K1 hK1 => ?_ -- region 0
  simp only [go_sem, Nat.reduceAdd, Nat.reduceEqDiff, Nat.reduceLeDiff, true_and, FileM.enc, Dgm.enc, Src.enc, List.length_map]
  refine hK1 _ _ ?_; try clear hK1 K1
  conv => enter [5]; simp only [setL_cons, setL_nil, List.set_cons_zero, List.set_cons_succ]
  refine AW.regl false [7] (by rfl) fun K2 hK2 => ?_ -- region 1
  simp only [go_sem, Nat.reduceAdd, Nat.reduceEqDiff, Nat.reduceLeDiff, true_and, FileM.enc, Dgm.enc, Src.enc, List.length_map]
  refine hK2 _ _ ?_; try clear hK2 K2
  conv => enter [5]; simp only [setL_cons, setL_nil, List.set_cons_zero, List.set_cons_succ]
  refine AW.seq_k fun K3 hK3 => ?_
  refine AW.regl false [13] (by rfl) fun K4 hK4 => ?_ -- region 2
  simp only [go_sem, Nat.reduceAdd, Nat.reduceEqDiff, Nat.reduceLeDiff, true_and, FileM.enc, Dgm.enc, Src.enc, List.length_map]
  refine hK4 _ _ ?_; try clear hK4 K4
  conv => enter [5]; simp only [setL_cons, setL_nil, List.set_cons_zero, List.set_cons_succ]
  refine AW.cond rfl (fun hc13 => ?_) (fun hc13 => ?_)
  · skip
    refine AW.seq_k fun K5 hK5 => ?_
    refine AW.regtf false 24 (.val (.bool (decide (block < 0) || decide (block ≥ (blocks.length : Int))))) (by rfl) ?_ ?_ -- region 3
    · skip
      cases h16 : (decide (block < 0))
      · skip
        simp only [go_sem, Nat.reduceAdd, Nat.reduceEqDiff, Nat.reduceLeDiff, true_and, FileM.enc, Dgm.enc, Src.enc, List.length_map, h16]
        try simp [upd_at, h16, FileM.enc, Dgm.enc, Src.enc, List.length_map]
      · skip
        simp only [go_sem, Nat.reduceAdd, Nat.reduceEqDiff, Nat.reduceLeDiff, true_and, FileM.enc, Dgm.enc, Src.enc, List.length_map, h16]
        try simp [upd_at, h16, FileM.enc, Dgm.enc, Src.enc, List.length_map]
    conv => enter [5]; simp only [List.set_cons_zero, List.set_cons_succ]
    refine AW.cond rfl (fun hc24 => ?_) (fun hc24 => ?_)
    · skip
      refine AW.regl false [6] (by rfl) fun K7 hK7 => ?_ -- region 4
      simp only [go_sem, Nat.reduceAdd, Nat.reduceEqDiff, Nat.reduceLeDiff, true_and, FileM.enc, Dgm.enc, Src.enc, List.length_map]
      refine hK7 _ _ ?_; try clear hK7 K7
      conv => enter [5]; simp only [setL_cons, setL_nil, List.set_cons_zero, List.set_cons_succ]
      refine AW.ret ⟨.inr rfl, _, rfl, by simp, ?_⟩ -- return 1
      refine frzB ?_
      simp only [FileM.source]
      rw [if_pos hc13, if_pos hc24]
    · skip
      have h0 : ¬ block < 0 ∧ block < blocks.length := by simpa using hc24
      obtain ⟨j, rfl⟩ := Int.eq_ofNat_of_zero_le (by omega : 0 ≤ block)
      have hj : j < blocks.length := by omega
      have hx : (blocks.map Blk.enc)[j]? = some (blocks[j]).enc := by simp [hj]
      refine AW.skip ?_
      refine hK5 _ _ ?_; try clear hK5 K5
      refine AW.lastdl mixed false [7] (by kernel_rfl) (by rfl) fun K hK => ?_ -- region 5
      simp only [go_sem, Nat.reduceAdd, Nat.reduceEqDiff, Nat.reduceLeDiff, true_and, FileM.enc, Dgm.enc, Src.enc, List.length_map, at_row hx, blk_get]
      refine qC.of en29 ((results_calls f blocks[j]).on _).here rfl ?_
      try simp only [go_sem, Nat.reduceAdd, Nat.reduceEqDiff, Nat.reduceLeDiff, true_and, FileM.enc, Dgm.enc, Src.enc, List.length_map, at_row hx, blk_get]
      refine hK _ fun env' hw => ?_
      simp only [setL_cons, setL_nil, List.set_cons_zero, List.set_cons_succ] at hw
      refine hK3 _ _ (AW.weaken hw ?_); clear hw; try clear hK3 K3
      refine AW.regtf false 6 (.val (.bool (decide (port ≥ 0) && decide (port < f.results blocks[j])))) (by rfl) ?_ ?_ -- region 6
      · skip
        cases h35 : (decide (port ≥ 0))
        · skip
          simp only [go_sem, Nat.reduceAdd, Nat.reduceEqDiff, Nat.reduceLeDiff, true_and, FileM.enc, Dgm.enc, Src.enc, List.length_map, h35]
          try simp [upd_at, h35, FileM.enc, Dgm.enc, Src.enc, List.length_map]
        · skip
          simp only [go_sem, Nat.reduceAdd, Nat.reduceEqDiff, Nat.reduceLeDiff, true_and, FileM.enc, Dgm.enc, Src.enc, List.length_map, h35]
          try simp [upd_at, h35, FileM.enc, Dgm.enc, Src.enc, List.length_map]
      conv => enter [5]; simp only [List.set_cons_zero, List.set_cons_succ]
      refine AW.ret ⟨.inr rfl, _, rfl, by simp, ?_⟩ -- return 2
      refine frzB ?_
      simp only [FileM.source]
      rw [if_pos hc13, if_neg (ne_true_of_eq_false hc24)]
      simp only [Int.toNat_natCast, List.getElem?_eq_getElem hj]
  · skip
    refine AW.skip ?_
    refine hK3 _ _ ?_; try clear hK3 K3
    refine AW.regtf false 6 (.val (.bool (decide (port ≥ 0) && decide (port < (ins.length : Int))))) (by rfl) ?_ ?_ -- region 6
    · skip
      cases h35 : (decide (port ≥ 0))
      · skip
        simp only [go_sem, Nat.reduceAdd, Nat.reduceEqDiff, Nat.reduceLeDiff, true_and, FileM.enc, Dgm.enc, Src.enc, List.length_map, h35]
        try simp [upd_at, h35, FileM.enc, Dgm.enc, Src.enc, List.length_map]
      · skip
        simp only [go_sem, Nat.reduceAdd, Nat.reduceEqDiff, Nat.reduceLeDiff, true_and, FileM.enc, Dgm.enc, Src.enc, List.length_map, h35]
        try simp [upd_at, h35, FileM.enc, Dgm.enc, Src.enc, List.length_map]
    conv => enter [5]; simp only [List.set_cons_zero, List.set_cons_succ]
    refine AW.ret ⟨.inr rfl, _, rfl, by simp, ?_⟩ -- return 3
    refine frzB ?_
    simp only [FileM.source]
    rw [if_neg (ne_true_of_eq_false hc13)]

set_option maxRecDepth 100000 in
theorem port_calls (p : PortM) : APure prog Γ 80 [p.enc] (.val (.bool p.right)) := by
  refine APure.of func80 rfl fun σ => ?_
  simp only [ntmps80, List.length_cons, List.length_nil, Nat.reduceAdd, Nat.reduceSub, List.replicate_succ, List.replicate_zero, List.cons_append, List.nil_append]
  obtain ⟨name, type⟩ := p
  refine AW.regl false [1, 2] (by rfl) fun K1 hK1 => ?_ -- region 0
  simp only [go_sem, Nat.reduceAdd, Nat.reduceEqDiff, Nat.reduceLeDiff, true_and, PortM.enc]
  refine hK1 _ _ ?_; try clear hK1 K1
  conv => enter [5]; simp only [setL_cons, setL_nil, List.set_cons_zero, List.set_cons_succ]
  refine AW.regtf false 2 (.val (.bool ((decide ((name.size : Int) ≤ 65535) && decide (type ≥ 0)) && decide (type ≤ 1)))) (by rfl) ?_ ?_ -- region 1
  · skip
    cases h6 : (decide ((name.size : Int) ≤ 65535))
    · skip
      simp only [go_sem, Nat.reduceAdd, Nat.reduceEqDiff, Nat.reduceLeDiff, true_and, PortM.enc, h6]
      try simp [upd_at, h6, PortM.enc]
    · skip
      cases h10 : (decide (type ≥ 0))
      · skip
        simp only [go_sem, Nat.reduceAdd, Nat.reduceEqDiff, Nat.reduceLeDiff, true_and, PortM.enc, h6, h10]
        try simp [upd_at, h6, h10, PortM.enc]
      · skip
        simp only [go_sem, Nat.reduceAdd, Nat.reduceEqDiff, Nat.reduceLeDiff, true_and, PortM.enc, h6, h10]
        try simp [upd_at, h6, h10, PortM.enc]
  conv => enter [5]; simp only [List.set_cons_zero, List.set_cons_succ]
  refine AW.ret ⟨.inr rfl, _, rfl, by simp, ?_⟩ -- return 1
  refine frzB ?_
  rfl

set_option maxRecDepth 100000 in
theorem block1_calls (f : FileM) (d : Dgm) (s : Src) {σ : Sto} {o1 o2 : Nat} (h1 : σ[o1]? = some (.cells f.enc.cells)) (h2 : σ[o2]? = some (.cells d.enc.cells)) : APureOn prog Γ 105 [s.enc, .ref o1 0, .ref o2 0] σ (.val (.bool (!f.source d s))) := by
  refine APureOn.of func105 rfl fun τ => ?_
  simp only [ntmps105, List.length_cons, List.length_nil, Nat.reduceAdd, Nat.reduceSub, List.replicate_succ, List.replicate_zero, List.cons_append, List.nil_append]
  have h1' := getL h1 τ
  have h2' := getL h2 τ
  generalize σ ++ τ = σ at h1' h2' ⊢
  have g1 := getL h1'
  have g2 := getL h2'
  refine AW.regl false [3, 4] (by rfl) fun K1 hK1 => ?_ -- region 0
  simp only [go_sem, Nat.reduceAdd, Nat.reduceEqDiff, Nat.reduceLeDiff, true_and, g1, g2, src_get, dgm_get, file_get, src_all]
  refine hK1 _ _ ?_; try clear hK1 K1
  conv => enter [5]; simp only [setL_cons, setL_nil, List.set_cons_zero, List.set_cons_succ]
  refine AW.regl false [4] (by rfl) fun K2 hK2 => ?_ -- region 1
  simp only [go_sem, Nat.reduceAdd, Nat.reduceEqDiff, Nat.reduceLeDiff, true_and, g1, g2, src_get, dgm_get, file_get, src_all]
  refine sC.of en83 ((source_calls f d s).on _).here rfl ?_
  try simp only [go_sem, Nat.reduceAdd, Nat.reduceEqDiff, Nat.reduceLeDiff, true_and, g1, g2, src_get, dgm_get, file_get, src_all]
  refine hK2 _ _ ?_; try clear hK2 K2
  conv => enter [5]; simp only [setL_cons, setL_nil, List.set_cons_zero, List.set_cons_succ]
  refine AW.ret ⟨.inr rfl, _, rfl, by simp, ?_⟩ -- return 1
  exact .keep rfl

set_option maxRecDepth 100000 in
theorem indexFunc111 {α : Type} (en : α → AV) (hen : ∀ a, aGet prog 26 (en a).cells = some (en a)) (nl : Bool) (l : List α) (hl : l.length ≤ maxLen) (g : FuncId) (hg : Enters prog g) (caps : List AV) (p : α → Bool) (σ : Sto) (hp : ∀ a ∈ l, APureOn prog Γ g (en a :: caps) σ (.val (.bool (p a)))) : APureOn prog Γ 111 [rowAV 2 nl (l.map en), .fn g caps] σ (.val (.int .i64 (idxFrom p 0 l))) := by
  refine APureOn.of func111 rfl fun τ => ?_
  simp only [ntmps111, List.length_cons, List.length_nil, Nat.reduceAdd, Nat.reduceSub, List.replicate_succ, List.replicate_zero, List.cons_append, List.nil_append]
  have hp' : ∀ (i : Nat) (h : i < l.length), APureOn prog Γ g (en l[i] :: caps) (σ ++ τ) (.val (.bool (p l[i]))) := fun i h => (hp _ (List.getElem_mem h)).more τ
  generalize σ ++ τ = σ at hp' ⊢
  refine AW.regl false [4] (by rfl) fun K1 hK1 => ?_ -- region 0
  simp only [go_sem, Nat.reduceAdd, Nat.reduceEqDiff, Nat.reduceLeDiff, true_and, List.length_map, hen]
  refine hK1 _ _ ?_; try clear hK1 K1
  conv => enter [5]; simp only [setL_cons, setL_nil, List.set_cons_zero, List.set_cons_succ]
  refine AW.seq_k fun K2 hK2 => ?_
  refine AW.regl false [7, 8] (by rfl) fun K3 hK3 => ?_ -- region 1
  simp only [go_sem, Nat.reduceAdd, Nat.reduceEqDiff, Nat.reduceLeDiff, true_and, List.length_map, hen]
  refine hK3 _ _ ?_; try clear hK3 K3
  conv => enter [5]; simp only [setL_cons, setL_nil, List.set_cons_zero, List.set_cons_succ]
  refine AW.block ?_
  refine AW.loop_wk (α := Nat) (fun i => [(rowAV 2 nl (l.map en)), (.fn g caps), .any, .any, .any, .any, .any, (.val (.int .i64 (l.length : Nat))), (.val (.int .i64 (i : Nat))), .any, .any, .any, .any, .any, .any, .any, .any, .any, .any]) (fun i => σ) (fun i => l.length - i) (fun i => i ≤ l.length ∧ idxFrom p 0 l = idxFrom p i (l.drop i)) 0 ?_ ?_
  · exact ⟨⟨Nat.zero_le _, rfl⟩, by simp [Wk], rfl⟩
  · rintro i ⟨hi, hix⟩
    refine AW.regl false [9] (by rfl) fun K4 hK4 => ?_ -- region 2
    simp only [go_sem, Nat.reduceAdd, Nat.reduceEqDiff, Nat.reduceLeDiff, true_and, List.length_map, hen]
    refine hK4 _ _ ?_; try clear hK4 K4
    conv => enter [5]; simp only [setL_cons, setL_nil, List.set_cons_zero, List.set_cons_succ]
    refine AW.seq_k fun K5 hK5 => ?_
    refine AW.cond rfl (fun hc9 => ?_) (fun hc9 => ?_)
    · skip
      have hc9 : i < l.length := by simpa using hc9
      have hx : (l.map en)[i]? = some (en l[i]) := by simp [hc9]
      rw [idxFrom_drop p l i hc9] at hix
      refine AW.skip ?_
      refine hK5 _ _ ?_; try clear hK5 K5
      refine AW.seq_k fun K6 hK6 => ?_
      refine AW.block ?_
      refine AW.regl false [5] (by rfl) fun K7 hK7 => ?_ -- region 3
      simp only [go_sem, Nat.reduceAdd, Nat.reduceEqDiff, Nat.reduceLeDiff, true_and, List.length_map, hen]
      refine hK7 _ _ ?_; try clear hK7 K7
      conv => enter [5]; simp only [setL_cons, setL_nil, List.set_cons_zero, List.set_cons_succ]
      refine AW.regl false [16] (by rfl) fun K8 hK8 => ?_ -- region 4
      simp only [go_sem, Nat.reduceAdd, Nat.reduceEqDiff, Nat.reduceLeDiff, true_and, List.length_map, hen, at_row hx]
      refine sC.of hg (hp' i hc9).here rfl ?_
      try simp only [go_sem, Nat.reduceAdd, Nat.reduceEqDiff, Nat.reduceLeDiff, true_and, List.length_map, hen, at_row hx]
      refine hK8 _ _ ?_; try clear hK8 K8
      conv => enter [5]; simp only [setL_cons, setL_nil, List.set_cons_zero, List.set_cons_succ]
      refine AW.cond rfl (fun hc16 => ?_) (fun hc16 => ?_)
      · skip
        rw [if_pos hc16] at hix
        refine AW.regl false [4] (by rfl) fun K9 hK9 => ?_ -- region 5
        simp only [go_sem, Nat.reduceAdd, Nat.reduceEqDiff, Nat.reduceLeDiff, true_and, List.length_map, hen]
        refine hK9 _ _ ?_; try clear hK9 K9
        conv => enter [5]; simp only [setL_cons, setL_nil, List.set_cons_zero, List.set_cons_succ]
        refine AW.ret ⟨.inr rfl, _, rfl, by simp, ?_⟩ -- return 1
        refine frzI ?_
        exact hix.symm
      · skip
        rw [if_neg (ne_true_of_eq_false hc16)] at hix
        refine AW.skip ?_
        refine hK6 _ _ ?_; try clear hK6 K6
        refine AW.lastl false [8] (by rfl) fun K hK => ?_ -- region 6
        simp only [go_sem, Nat.reduceAdd, Nat.reduceEqDiff, Nat.reduceLeDiff, true_and, List.length_map, hen]
        refine hK _ _ fun env' hw => ?_
        simp only [setL_cons, setL_nil, List.set_cons_zero, List.set_cons_succ] at hw
        refine ⟨i + 1, by omega, ⟨by omega, hix⟩, ?_, rfl⟩
        refine hw.trans ?_
        simp [Wk, wrap_succ hc9 hl]
    · skip
      have hc : i = l.length := by have : ¬ i < l.length := by simpa using hc9
                                   omega
      refine AW.exit ?_
      refine hK2 _ _ ?_; try clear hK2 K2
      refine AW.regl false [4] (by rfl) fun K10 hK10 => ?_ -- region 7
      simp only [go_sem, Nat.reduceAdd, Nat.reduceEqDiff, Nat.reduceLeDiff, true_and, List.length_map, hen]
      refine hK10 _ _ ?_; try clear hK10 K10
      conv => enter [5]; simp only [setL_cons, setL_nil, List.set_cons_zero, List.set_cons_succ]
      refine AW.ret ⟨.inr rfl, _, rfl, by simp, ?_⟩ -- return 2
      refine frzI ?_
      rw [hix, hc, List.drop_length]
      rfl

set_option maxRecDepth 100000 in
theorem containsFunc104 {α : Type} (en : α → AV) (hen : ∀ a, aGet prog 26 (en a).cells = some (en a)) (nl : Bool) (l : List α) (hl : l.length ≤ maxLen) (g : FuncId) (hg : Enters prog g) (caps : List AV) (p : α → Bool) (σ : Sto) (hp : ∀ a ∈ l, APureOn prog Γ g (en a :: caps) σ (.val (.bool (p a)))) : APureOn prog Γ 104 [rowAV 2 nl (l.map en), .fn g caps] σ (.val (.bool (l.any p))) := by
  refine APureOn.of func104 rfl fun τ => ?_
  simp only [ntmps104, List.length_cons, List.length_nil, Nat.reduceAdd, Nat.reduceSub, List.replicate_succ, List.replicate_zero, List.cons_append, List.nil_append]
  have hi := (indexFunc111 en hen nl l hl g hg caps p σ hp).more τ
  generalize σ ++ τ = σ at hi ⊢
  refine AW.regl false [4] (by rfl) fun K1 hK1 => ?_ -- region 0
  simp only [go_sem, Nat.reduceAdd, Nat.reduceEqDiff, Nat.reduceLeDiff, true_and]
  refine hK1 _ _ ?_; try clear hK1 K1
  conv => enter [5]; simp only [setL_cons, setL_nil, List.set_cons_zero, List.set_cons_succ]
  refine AW.regl false [4] (by rfl) fun K2 hK2 => ?_ -- region 1
  simp only [go_sem, Nat.reduceAdd, Nat.reduceEqDiff, Nat.reduceLeDiff, true_and]
  refine sC.of en111 (hi).here rfl ?_
  try simp only [go_sem, Nat.reduceAdd, Nat.reduceEqDiff, Nat.reduceLeDiff, true_and]
  refine hK2 _ _ ?_; try clear hK2 K2
  conv => enter [5]; simp only [setL_cons, setL_nil, List.set_cons_zero, List.set_cons_succ]
  refine AW.ret ⟨.inr rfl, _, rfl, by simp, ?_⟩ -- return 1
  refine frzB ?_
  exact idxFrom_nonneg p l 0

set_option maxRecDepth 100000 in
theorem block_calls (f : FileM) (d : Dgm) (b : Blk) (hb : b.ok) : APure prog GK 86 [f.enc, d.enc, b.enc] (.val (.bool (f.block d b))) := by
  refine APure.of func86 rfl fun σ => ?_
  simp only [ntmps86, List.length_cons, List.length_nil, Nat.reduceAdd, Nat.reduceSub, List.replicate_succ, List.replicate_zero, List.cons_append, List.nil_append]
  obtain ⟨kind, op, sub, bn, bx, by', nl, src⟩ := b
  obtain ⟨fnl, ds⟩ := f
  refine AW.regl false [3, 4, 5, 6] (by rfl) fun K1 hK1 => ?_ -- region 0
  simp only [go_sem, Nat.reduceAdd, Nat.reduceEqDiff, Nat.reduceLeDiff, true_and, FileM.enc, Blk.enc, dgm_all, List.length_map]
  refine hK1 _ _ ?_; try clear hK1 K1
  conv => enter [5]; simp only [setL_cons, setL_nil, List.set_cons_zero, List.set_cons_succ]
  refine AW.seq_k fun K2 hK2 => ?_
  refine AW.regtf false 17 (.val (.bool (decide (kind < 0) || decide (kind > 7)))) (by rfl) ?_ ?_ -- region 1
  · skip
    cases h12 : (decide (kind < 0))
    · skip
      simp only [go_sem, Nat.reduceAdd, Nat.reduceEqDiff, Nat.reduceLeDiff, true_and, FileM.enc, Blk.enc, dgm_all, List.length_map, h12]
      try simp [upd_at, h12, FileM.enc, Blk.enc, dgm_all, List.length_map]
    · skip
      simp only [go_sem, Nat.reduceAdd, Nat.reduceEqDiff, Nat.reduceLeDiff, true_and, FileM.enc, Blk.enc, dgm_all, List.length_map, h12]
      try simp [upd_at, h12, FileM.enc, Blk.enc, dgm_all, List.length_map]
  conv => enter [5]; simp only [List.set_cons_zero, List.set_cons_succ]
  refine AW.cond rfl (fun hc17 => ?_) (fun hc17 => ?_)
  · skip
    refine AW.regl false [6] (by rfl) fun K4 hK4 => ?_ -- region 2
    simp only [go_sem, Nat.reduceAdd, Nat.reduceEqDiff, Nat.reduceLeDiff, true_and, FileM.enc, Blk.enc, dgm_all, List.length_map]
    refine hK4 _ _ ?_; try clear hK4 K4
    conv => enter [5]; simp only [setL_cons, setL_nil, List.set_cons_zero, List.set_cons_succ]
    refine AW.ret ⟨.inr rfl, _, rfl, by simp, ?_⟩ -- return 1
    refine frzB ?_
    simp only [FileM.block]
    rw [if_pos hc17]
  · skip
    have h0 : ¬ kind < 0 ∧ ¬ kind > 7 := by simpa using hc17
    obtain ⟨j, rfl⟩ := Int.eq_ofNat_of_zero_le (by omega : 0 ≤ kind)
    have hj : j < kindsT.length := by simp only [kindsT, List.length_cons, List.length_nil]; omega
    obtain ⟨⟨k1, k2, k3, k4⟩, hk⟩ : ∃ k, k = kindsT[j] := ⟨_, rfl⟩
    have hx : (kindsT.map encK)[j]? = some (encK (k1, k2, k3, k4)) := by rw [hk]; simp [hj]
    refine AW.skip ?_
    refine hK2 _ _ ?_; try clear hK2 K2
    refine AW.regl false [7] (by rfl) fun K5 hK5 => ?_ -- region 3
    simp only [go_sem, Nat.reduceAdd, Nat.reduceEqDiff, Nat.reduceLeDiff, true_and, FileM.enc, Blk.enc, dgm_all, List.length_map, opnd_k1, at_sl hx, encK]
    refine hK5 _ _ ?_; try clear hK5 K5
    conv => enter [5]; simp only [setL_cons, setL_nil, List.set_cons_zero, List.set_cons_succ]
    refine AW.regtf false 8 (.val (.bool ((((decide (op ≥ k1) && decide (op ≤ k2)) && decide (bn ≥ 0)) && decide (bn ≤ k3)) && (sub == 0 || (j : Int) == 7)))) (by rfl) ?_ ?_ -- region 4
    · skip
      cases h27 : (decide (op ≥ k1))
      · skip
        simp only [go_sem, Nat.reduceAdd, Nat.reduceEqDiff, Nat.reduceLeDiff, true_and, FileM.enc, Blk.enc, dgm_all, List.length_map, h27]
        try simp [upd_at, h27, FileM.enc, Blk.enc, dgm_all, List.length_map]
      · skip
        cases h33 : (decide (op ≤ k2))
        · skip
          simp only [go_sem, Nat.reduceAdd, Nat.reduceEqDiff, Nat.reduceLeDiff, true_and, FileM.enc, Blk.enc, dgm_all, List.length_map, h27, h33]
          try simp [upd_at, h27, h33, FileM.enc, Blk.enc, dgm_all, List.length_map]
        · skip
          cases h38 : (decide (bn ≥ 0))
          · skip
            simp only [go_sem, Nat.reduceAdd, Nat.reduceEqDiff, Nat.reduceLeDiff, true_and, FileM.enc, Blk.enc, dgm_all, List.length_map, h27, h33, h38]
            try simp [upd_at, h27, h33, h38, FileM.enc, Blk.enc, dgm_all, List.length_map]
          · skip
            cases h45 : (decide (bn ≤ k3))
            · skip
              simp only [go_sem, Nat.reduceAdd, Nat.reduceEqDiff, Nat.reduceLeDiff, true_and, FileM.enc, Blk.enc, dgm_all, List.length_map, h27, h33, h38, h45]
              try simp [upd_at, h27, h33, h38, h45, FileM.enc, Blk.enc, dgm_all, List.length_map]
            · skip
              cases h50 : (sub == 0)
              · skip
                simp only [go_sem, Nat.reduceAdd, Nat.reduceEqDiff, Nat.reduceLeDiff, true_and, FileM.enc, Blk.enc, dgm_all, List.length_map, h27, h33, h38, h45, h50]
                try simp [upd_at, h27, h33, h38, h45, h50, FileM.enc, Blk.enc, dgm_all, List.length_map]
              · skip
                simp only [go_sem, Nat.reduceAdd, Nat.reduceEqDiff, Nat.reduceLeDiff, true_and, FileM.enc, Blk.enc, dgm_all, List.length_map, h27, h33, h38, h45, h50]
                try simp [upd_at, h27, h33, h38, h45, h50, FileM.enc, Blk.enc, dgm_all, List.length_map]
    conv => enter [5]; simp only [List.set_cons_zero, List.set_cons_succ]
    generalize hP8 : (((((decide (op ≥ k1) && decide (op ≤ k2)) && decide (bn ≥ 0)) && decide (bn ≤ k3)) && (sub == 0 || (j : Int) == 7))) = P8
    refine AW.seq_k fun K7 hK7 => ?_
    refine AW.regl false [59] (by rfl) fun K8 hK8 => ?_ -- region 5
    simp only [go_sem, Nat.reduceAdd, Nat.reduceEqDiff, Nat.reduceLeDiff, true_and, FileM.enc, Blk.enc, dgm_all, List.length_map]
    refine hK8 _ _ ?_; try clear hK8 K8
    conv => enter [5]; simp only [setL_cons, setL_nil, List.set_cons_zero, List.set_cons_succ]
    refine AW.cond rfl (fun hc59 => ?_) (fun hc59 => ?_)
    · skip
      refine AW.lasttf false 8 (.val (.bool ((P8 && decide (sub ≥ 0)) && decide (sub < (ds.length : Int))))) (by rfl) ?_ (fun env' hw => ?_) -- region 6
      · skip
        cases h8 : (P8)
        · skip
          simp only [go_sem, Nat.reduceAdd, Nat.reduceEqDiff, Nat.reduceLeDiff, true_and, FileM.enc, Blk.enc, dgm_all, List.length_map, h8]
          try simp [upd_at, h8, FileM.enc, Blk.enc, dgm_all, List.length_map]
        · skip
          cases h64 : (decide (sub ≥ 0))
          · skip
            simp only [go_sem, Nat.reduceAdd, Nat.reduceEqDiff, Nat.reduceLeDiff, true_and, FileM.enc, Blk.enc, dgm_all, List.length_map, h8, h64]
            try simp [upd_at, h8, h64, FileM.enc, Blk.enc, dgm_all, List.length_map]
          · skip
            simp only [go_sem, Nat.reduceAdd, Nat.reduceEqDiff, Nat.reduceLeDiff, true_and, FileM.enc, Blk.enc, dgm_all, List.length_map, h8, h64]
            try simp [upd_at, h8, h64, FileM.enc, Blk.enc, dgm_all, List.length_map]
      simp only [List.set_cons_zero, List.set_cons_succ] at hw
      generalize hP8 : (((P8 && decide (sub ≥ 0)) && decide (sub < (ds.length : Int)))) = P8 at hw ⊢
      refine hK7 _ _ (AW.weaken hw ?_); clear hw; try clear hK7 K7
      refine AW.regtf false 9 (.val (.bool ((src.length : Int) == k4 || (k4 == -1 && decide ((src.length : Int) ≤ 16777215))))) (by rfl) ?_ ?_ -- region 7
      · skip
        cases h79 : ((src.length : Int) == k4)
        · skip
          cases h83 : (k4 == -1)
          · skip
            simp only [go_sem, Nat.reduceAdd, Nat.reduceEqDiff, Nat.reduceLeDiff, true_and, FileM.enc, Blk.enc, dgm_all, List.length_map, h79, h83]
            try simp [upd_at, h79, h83, FileM.enc, Blk.enc, dgm_all, List.length_map]
          · skip
            simp only [go_sem, Nat.reduceAdd, Nat.reduceEqDiff, Nat.reduceLeDiff, true_and, FileM.enc, Blk.enc, dgm_all, List.length_map, h79, h83]
            try simp [upd_at, h79, h83, FileM.enc, Blk.enc, dgm_all, List.length_map]
        · skip
          simp only [go_sem, Nat.reduceAdd, Nat.reduceEqDiff, Nat.reduceLeDiff, true_and, FileM.enc, Blk.enc, dgm_all, List.length_map, h79]
          try simp [upd_at, h79, FileM.enc, Blk.enc, dgm_all, List.length_map]
      conv => enter [5]; simp only [List.set_cons_zero, List.set_cons_succ]
      generalize hP9 : (((src.length : Int) == k4 || (k4 == -1 && decide ((src.length : Int) ≤ 16777215)))) = P9
      refine AW.regtf false 6 (.val (.bool ((P8 && P9) && !(src.any fun s => !FileM.source ⟨fnl, ds⟩ d s)))) (by rfl) ?_ ?_ -- region 8
      · skip
        cases h8 : (P8)
        · skip
          simp only [go_sem, Nat.reduceAdd, Nat.reduceEqDiff, Nat.reduceLeDiff, true_and, FileM.enc, Blk.enc, dgm_all, List.length_map, h8]
          try simp [upd_at, h8, FileM.enc, Blk.enc, dgm_all, List.length_map]
        · skip
          cases h9 : (P9)
          · skip
            simp only [go_sem, Nat.reduceAdd, Nat.reduceEqDiff, Nat.reduceLeDiff, true_and, FileM.enc, Blk.enc, dgm_all, List.length_map, h8, h9]
            try simp [upd_at, h8, h9, FileM.enc, Blk.enc, dgm_all, List.length_map]
          · skip
            simp only [go_sem, Nat.reduceAdd, Nat.reduceEqDiff, Nat.reduceLeDiff, true_and, FileM.enc, Blk.enc, dgm_all, List.length_map, h8, h9]
            refine sC.of en104 (containsFunc104 Src.enc src_get nl src hb 105 en105 _ (fun s => !FileM.source ⟨fnl, ds⟩ d s) _ (fun s _ => block1_calls ⟨fnl, ds⟩ d s (by simp [FileM.enc, AV.cells]) (by simp))).here rfl ?_
            try simp only [go_sem, Nat.reduceAdd, Nat.reduceEqDiff, Nat.reduceLeDiff, true_and, FileM.enc, Blk.enc, dgm_all, List.length_map, h8, h9]
            try simp [upd_at, h8, h9, FileM.enc, Blk.enc, dgm_all, List.length_map]
      conv => enter [5]; simp only [List.set_cons_zero, List.set_cons_succ]
      refine AW.ret ⟨.inr rfl, _, rfl, by simp, ?_⟩ -- return 2
      refine frzB ?_
      subst_vars
      simp only [FileM.block]
      rw [if_neg (ne_true_of_eq_false hc17)]
      simp only [Int.toNat_natCast, List.getElem?_eq_getElem hj, ← hk]
      rw [if_pos hc59]
    · skip
      refine AW.skip ?_
      refine hK7 _ _ ?_; try clear hK7 K7
      refine AW.regtf false 9 (.val (.bool ((src.length : Int) == k4 || (k4 == -1 && decide ((src.length : Int) ≤ 16777215))))) (by rfl) ?_ ?_ -- region 7
      · skip
        cases h79 : ((src.length : Int) == k4)
        · skip
          cases h83 : (k4 == -1)
          · skip
            simp only [go_sem, Nat.reduceAdd, Nat.reduceEqDiff, Nat.reduceLeDiff, true_and, FileM.enc, Blk.enc, dgm_all, List.length_map, h79, h83]
            try simp [upd_at, h79, h83, FileM.enc, Blk.enc, dgm_all, List.length_map]
          · skip
            simp only [go_sem, Nat.reduceAdd, Nat.reduceEqDiff, Nat.reduceLeDiff, true_and, FileM.enc, Blk.enc, dgm_all, List.length_map, h79, h83]
            try simp [upd_at, h79, h83, FileM.enc, Blk.enc, dgm_all, List.length_map]
        · skip
          simp only [go_sem, Nat.reduceAdd, Nat.reduceEqDiff, Nat.reduceLeDiff, true_and, FileM.enc, Blk.enc, dgm_all, List.length_map, h79]
          try simp [upd_at, h79, FileM.enc, Blk.enc, dgm_all, List.length_map]
      conv => enter [5]; simp only [List.set_cons_zero, List.set_cons_succ]
      generalize hP9 : (((src.length : Int) == k4 || (k4 == -1 && decide ((src.length : Int) ≤ 16777215)))) = P9
      refine AW.regtf false 6 (.val (.bool ((P8 && P9) && !(src.any fun s => !FileM.source ⟨fnl, ds⟩ d s)))) (by rfl) ?_ ?_ -- region 8
      · skip
        cases h8 : (P8)
        · skip
          simp only [go_sem, Nat.reduceAdd, Nat.reduceEqDiff, Nat.reduceLeDiff, true_and, FileM.enc, Blk.enc, dgm_all, List.length_map, h8]
          try simp [upd_at, h8, FileM.enc, Blk.enc, dgm_all, List.length_map]
        · skip
          cases h9 : (P9)
          · skip
            simp only [go_sem, Nat.reduceAdd, Nat.reduceEqDiff, Nat.reduceLeDiff, true_and, FileM.enc, Blk.enc, dgm_all, List.length_map, h8, h9]
            try simp [upd_at, h8, h9, FileM.enc, Blk.enc, dgm_all, List.length_map]
          · skip
            simp only [go_sem, Nat.reduceAdd, Nat.reduceEqDiff, Nat.reduceLeDiff, true_and, FileM.enc, Blk.enc, dgm_all, List.length_map, h8, h9]
            refine sC.of en104 (containsFunc104 Src.enc src_get nl src hb 105 en105 _ (fun s => !FileM.source ⟨fnl, ds⟩ d s) _ (fun s _ => block1_calls ⟨fnl, ds⟩ d s (by simp [FileM.enc, AV.cells]) (by simp))).here rfl ?_
            try simp only [go_sem, Nat.reduceAdd, Nat.reduceEqDiff, Nat.reduceLeDiff, true_and, FileM.enc, Blk.enc, dgm_all, List.length_map, h8, h9]
            try simp [upd_at, h8, h9, FileM.enc, Blk.enc, dgm_all, List.length_map]
      conv => enter [5]; simp only [List.set_cons_zero, List.set_cons_succ]
      refine AW.ret ⟨.inr rfl, _, rfl, by simp, ?_⟩ -- return 3
      refine frzB ?_
      subst_vars
      simp only [FileM.block]
      rw [if_neg (ne_true_of_eq_false hc17)]
      simp only [Int.toNat_natCast, List.getElem?_eq_getElem hj, ← hk]
      rw [if_neg (ne_true_of_eq_false hc59)]

set_option maxRecDepth 100000 in
theorem indexFunc101 {α : Type} (en : α → AV) (hen : ∀ a, aGet prog 28 (en a).cells = some (en a)) (nl : Bool) (l : List α) (hl : l.length ≤ maxLen) (g : FuncId) (hg : Enters prog g) (caps : List AV) (p : α → Bool) (σ : Sto) (hp : ∀ a ∈ l, APureOn prog Γ g (en a :: caps) σ (.val (.bool (p a)))) : APureOn prog Γ 101 [rowAV 2 nl (l.map en), .fn g caps] σ (.val (.int .i64 (idxFrom p 0 l))) := by
  refine APureOn.of func101 rfl fun τ => ?_
  simp only [ntmps101, List.length_cons, List.length_nil, Nat.reduceAdd, Nat.reduceSub, List.replicate_succ, List.replicate_zero, List.cons_append, List.nil_append]
  have hp' : ∀ (i : Nat) (h : i < l.length), APureOn prog Γ g (en l[i] :: caps) (σ ++ τ) (.val (.bool (p l[i]))) := fun i h => (hp _ (List.getElem_mem h)).more τ
  generalize σ ++ τ = σ at hp' ⊢
  refine AW.regl false [4] (by rfl) fun K1 hK1 => ?_ -- region 0
  simp only [go_sem, Nat.reduceAdd, Nat.reduceEqDiff, Nat.reduceLeDiff, true_and, List.length_map, hen]
  refine hK1 _ _ ?_; try clear hK1 K1
  conv => enter [5]; simp only [setL_cons, setL_nil, List.set_cons_zero, List.set_cons_succ]
  refine AW.seq_k fun K2 hK2 => ?_
  refine AW.regl false [7, 8] (by rfl) fun K3 hK3 => ?_ -- region 1
  simp only [go_sem, Nat.reduceAdd, Nat.reduceEqDiff, Nat.reduceLeDiff, true_and, List.length_map, hen]
  refine hK3 _ _ ?_; try clear hK3 K3
  conv => enter [5]; simp only [setL_cons, setL_nil, List.set_cons_zero, List.set_cons_succ]
  refine AW.block ?_
  refine AW.loop_wk (α := Nat) (fun i => [(rowAV 2 nl (l.map en)), (.fn g caps), .any, .any, .any, .any, .any, (.val (.int .i64 (l.length : Nat))), (.val (.int .i64 (i : Nat))), .any, .any, .any, .any, .any, .any, .any, .any, .any, .any]) (fun i => σ) (fun i => l.length - i) (fun i => i ≤ l.length ∧ idxFrom p 0 l = idxFrom p i (l.drop i)) 0 ?_ ?_
  · exact ⟨⟨Nat.zero_le _, rfl⟩, by simp [Wk], rfl⟩
  · rintro i ⟨hi, hix⟩
    refine AW.regl false [9] (by rfl) fun K4 hK4 => ?_ -- region 2
    simp only [go_sem, Nat.reduceAdd, Nat.reduceEqDiff, Nat.reduceLeDiff, true_and, List.length_map, hen]
    refine hK4 _ _ ?_; try clear hK4 K4
    conv => enter [5]; simp only [setL_cons, setL_nil, List.set_cons_zero, List.set_cons_succ]
    refine AW.seq_k fun K5 hK5 => ?_
    refine AW.cond rfl (fun hc9 => ?_) (fun hc9 => ?_)
    · skip
      have hc9 : i < l.length := by simpa using hc9
      have hx : (l.map en)[i]? = some (en l[i]) := by simp [hc9]
      rw [idxFrom_drop p l i hc9] at hix
      refine AW.skip ?_
      refine hK5 _ _ ?_; try clear hK5 K5
      refine AW.seq_k fun K6 hK6 => ?_
      refine AW.block ?_
      refine AW.regl false [5] (by rfl) fun K7 hK7 => ?_ -- region 3
      simp only [go_sem, Nat.reduceAdd, Nat.reduceEqDiff, Nat.reduceLeDiff, true_and, List.length_map, hen]
      refine hK7 _ _ ?_; try clear hK7 K7
      conv => enter [5]; simp only [setL_cons, setL_nil, List.set_cons_zero, List.set_cons_succ]
      refine AW.regl false [16] (by rfl) fun K8 hK8 => ?_ -- region 4
      simp only [go_sem, Nat.reduceAdd, Nat.reduceEqDiff, Nat.reduceLeDiff, true_and, List.length_map, hen, at_row hx]
      refine sC.of hg (hp' i hc9).here rfl ?_
      try simp only [go_sem, Nat.reduceAdd, Nat.reduceEqDiff, Nat.reduceLeDiff, true_and, List.length_map, hen, at_row hx]
      refine hK8 _ _ ?_; try clear hK8 K8
      conv => enter [5]; simp only [setL_cons, setL_nil, List.set_cons_zero, List.set_cons_succ]
      refine AW.cond rfl (fun hc16 => ?_) (fun hc16 => ?_)
      · skip
        rw [if_pos hc16] at hix
        refine AW.regl false [4] (by rfl) fun K9 hK9 => ?_ -- region 5
        simp only [go_sem, Nat.reduceAdd, Nat.reduceEqDiff, Nat.reduceLeDiff, true_and, List.length_map, hen]
        refine hK9 _ _ ?_; try clear hK9 K9
        conv => enter [5]; simp only [setL_cons, setL_nil, List.set_cons_zero, List.set_cons_succ]
        refine AW.ret ⟨.inr rfl, _, rfl, by simp, ?_⟩ -- return 1
        refine frzI ?_
        exact hix.symm
      · skip
        rw [if_neg (ne_true_of_eq_false hc16)] at hix
        refine AW.skip ?_
        refine hK6 _ _ ?_; try clear hK6 K6
        refine AW.lastl false [8] (by rfl) fun K hK => ?_ -- region 6
        simp only [go_sem, Nat.reduceAdd, Nat.reduceEqDiff, Nat.reduceLeDiff, true_and, List.length_map, hen]
        refine hK _ _ fun env' hw => ?_
        simp only [setL_cons, setL_nil, List.set_cons_zero, List.set_cons_succ] at hw
        refine ⟨i + 1, by omega, ⟨by omega, hix⟩, ?_, rfl⟩
        refine hw.trans ?_
        simp [Wk, wrap_succ hc9 hl]
    · skip
      have hc : i = l.length := by have : ¬ i < l.length := by simpa using hc9
                                   omega
      refine AW.exit ?_
      refine hK2 _ _ ?_; try clear hK2 K2
      refine AW.regl false [4] (by rfl) fun K10 hK10 => ?_ -- region 7
      simp only [go_sem, Nat.reduceAdd, Nat.reduceEqDiff, Nat.reduceLeDiff, true_and, List.length_map, hen]
      refine hK10 _ _ ?_; try clear hK10 K10
      conv => enter [5]; simp only [setL_cons, setL_nil, List.set_cons_zero, List.set_cons_succ]
      refine AW.ret ⟨.inr rfl, _, rfl, by simp, ?_⟩ -- return 2
      refine frzI ?_
      rw [hix, hc, List.drop_length]
      rfl

set_option maxRecDepth 100000 in
theorem containsFunc78 {α : Type} (en : α → AV) (hen : ∀ a, aGet prog 28 (en a).cells = some (en a)) (nl : Bool) (l : List α) (hl : l.length ≤ maxLen) (g : FuncId) (hg : Enters prog g) (caps : List AV) (p : α → Bool) (σ : Sto) (hp : ∀ a ∈ l, APureOn prog Γ g (en a :: caps) σ (.val (.bool (p a)))) : APureOn prog Γ 78 [rowAV 2 nl (l.map en), .fn g caps] σ (.val (.bool (l.any p))) := by
  refine APureOn.of func78 rfl fun τ => ?_
  simp only [ntmps78, List.length_cons, List.length_nil, Nat.reduceAdd, Nat.reduceSub, List.replicate_succ, List.replicate_zero, List.cons_append, List.nil_append]
  have hi := (indexFunc101 en hen nl l hl g hg caps p σ hp).more τ
  generalize σ ++ τ = σ at hi ⊢
  refine AW.regl false [4] (by rfl) fun K1 hK1 => ?_ -- region 0
  simp only [go_sem, Nat.reduceAdd, Nat.reduceEqDiff, Nat.reduceLeDiff, true_and]
  refine hK1 _ _ ?_; try clear hK1 K1
  conv => enter [5]; simp only [setL_cons, setL_nil, List.set_cons_zero, List.set_cons_succ]
  refine AW.regl false [4] (by rfl) fun K2 hK2 => ?_ -- region 1
  simp only [go_sem, Nat.reduceAdd, Nat.reduceEqDiff, Nat.reduceLeDiff, true_and]
  refine sC.of en101 (hi).here rfl ?_
  try simp only [go_sem, Nat.reduceAdd, Nat.reduceEqDiff, Nat.reduceLeDiff, true_and]
  refine hK2 _ _ ?_; try clear hK2 K2
  conv => enter [5]; simp only [setL_cons, setL_nil, List.set_cons_zero, List.set_cons_succ]
  refine AW.ret ⟨.inr rfl, _, rfl, by simp, ?_⟩ -- return 1
  refine frzB ?_
  exact idxFrom_nonneg p l 0

set_option maxRecDepth 100000 in
theorem indexFunc102 {α : Type} (en : α → AV) (hen : ∀ a, aGet prog 30 (en a).cells = some (en a)) (nl : Bool) (l : List α) (hl : l.length ≤ maxLen) (g : FuncId) (hg : Enters prog g) (caps : List AV) (p : α → Bool) (σ : Sto) (hp : ∀ a ∈ l, APureOn prog Γ g (en a :: caps) σ (.val (.bool (p a)))) : APureOn prog Γ 102 [rowAV 4 nl (l.map en), .fn g caps] σ (.val (.int .i64 (idxFrom p 0 l))) := by
  refine APureOn.of func102 rfl fun τ => ?_
  simp only [ntmps102, List.length_cons, List.length_nil, Nat.reduceAdd, Nat.reduceSub, List.replicate_succ, List.replicate_zero, List.cons_append, List.nil_append]
  have hp' : ∀ (i : Nat) (h : i < l.length), APureOn prog Γ g (en l[i] :: caps) (σ ++ τ) (.val (.bool (p l[i]))) := fun i h => (hp _ (List.getElem_mem h)).more τ
  generalize σ ++ τ = σ at hp' ⊢
  refine AW.regl false [4] (by rfl) fun K1 hK1 => ?_ -- region 0
  simp only [go_sem, Nat.reduceAdd, Nat.reduceEqDiff, Nat.reduceLeDiff, true_and, List.length_map, hen]
  refine hK1 _ _ ?_; try clear hK1 K1
  conv => enter [5]; simp only [setL_cons, setL_nil, List.set_cons_zero, List.set_cons_succ]
  refine AW.seq_k fun K2 hK2 => ?_
  refine AW.regl false [7, 8] (by rfl) fun K3 hK3 => ?_ -- region 1
  simp only [go_sem, Nat.reduceAdd, Nat.reduceEqDiff, Nat.reduceLeDiff, true_and, List.length_map, hen]
  refine hK3 _ _ ?_; try clear hK3 K3
  conv => enter [5]; simp only [setL_cons, setL_nil, List.set_cons_zero, List.set_cons_succ]
  refine AW.block ?_
  refine AW.loop_wk (α := Nat) (fun i => [(rowAV 4 nl (l.map en)), (.fn g caps), .any, .any, .any, .any, .any, (.val (.int .i64 (l.length : Nat))), (.val (.int .i64 (i : Nat))), .any, .any, .any, .any, .any, .any, .any, .any, .any, .any]) (fun i => σ) (fun i => l.length - i) (fun i => i ≤ l.length ∧ idxFrom p 0 l = idxFrom p i (l.drop i)) 0 ?_ ?_
  · exact ⟨⟨Nat.zero_le _, rfl⟩, by simp [Wk], rfl⟩
  · rintro i ⟨hi, hix⟩
    refine AW.regl false [9] (by rfl) fun K4 hK4 => ?_ -- region 2
    simp only [go_sem, Nat.reduceAdd, Nat.reduceEqDiff, Nat.reduceLeDiff, true_and, List.length_map, hen]
    refine hK4 _ _ ?_; try clear hK4 K4
    conv => enter [5]; simp only [setL_cons, setL_nil, List.set_cons_zero, List.set_cons_succ]
    refine AW.seq_k fun K5 hK5 => ?_
    refine AW.cond rfl (fun hc9 => ?_) (fun hc9 => ?_)
    · skip
      have hc9 : i < l.length := by simpa using hc9
      have hx : (l.map en)[i]? = some (en l[i]) := by simp [hc9]
      rw [idxFrom_drop p l i hc9] at hix
      refine AW.skip ?_
      refine hK5 _ _ ?_; try clear hK5 K5
      refine AW.seq_k fun K6 hK6 => ?_
      refine AW.block ?_
      refine AW.regl false [5] (by rfl) fun K7 hK7 => ?_ -- region 3
      simp only [go_sem, Nat.reduceAdd, Nat.reduceEqDiff, Nat.reduceLeDiff, true_and, List.length_map, hen]
      refine hK7 _ _ ?_; try clear hK7 K7
      conv => enter [5]; simp only [setL_cons, setL_nil, List.set_cons_zero, List.set_cons_succ]
      refine AW.regl false [16] (by rfl) fun K8 hK8 => ?_ -- region 4
      simp only [go_sem, Nat.reduceAdd, Nat.reduceEqDiff, Nat.reduceLeDiff, true_and, List.length_map, hen, at_row hx]
      refine sC.of hg (hp' i hc9).here rfl ?_
      try simp only [go_sem, Nat.reduceAdd, Nat.reduceEqDiff, Nat.reduceLeDiff, true_and, List.length_map, hen, at_row hx]
      refine hK8 _ _ ?_; try clear hK8 K8
      conv => enter [5]; simp only [setL_cons, setL_nil, List.set_cons_zero, List.set_cons_succ]
      refine AW.cond rfl (fun hc16 => ?_) (fun hc16 => ?_)
      · skip
        rw [if_pos hc16] at hix
        refine AW.regl false [4] (by rfl) fun K9 hK9 => ?_ -- region 5
        simp only [go_sem, Nat.reduceAdd, Nat.reduceEqDiff, Nat.reduceLeDiff, true_and, List.length_map, hen]
        refine hK9 _ _ ?_; try clear hK9 K9
        conv => enter [5]; simp only [setL_cons, setL_nil, List.set_cons_zero, List.set_cons_succ]
        refine AW.ret ⟨.inr rfl, _, rfl, by simp, ?_⟩ -- return 1
        refine frzI ?_
        exact hix.symm
      · skip
        rw [if_neg (ne_true_of_eq_false hc16)] at hix
        refine AW.skip ?_
        refine hK6 _ _ ?_; try clear hK6 K6
        refine AW.lastl false [8] (by rfl) fun K hK => ?_ -- region 6
        simp only [go_sem, Nat.reduceAdd, Nat.reduceEqDiff, Nat.reduceLeDiff, true_and, List.length_map, hen]
        refine hK _ _ fun env' hw => ?_
        simp only [setL_cons, setL_nil, List.set_cons_zero, List.set_cons_succ] at hw
        refine ⟨i + 1, by omega, ⟨by omega, hix⟩, ?_, rfl⟩
        refine hw.trans ?_
        simp [Wk, wrap_succ hc9 hl]
    · skip
      have hc : i = l.length := by have : ¬ i < l.length := by simpa using hc9
                                   omega
      refine AW.exit ?_
      refine hK2 _ _ ?_; try clear hK2 K2
      refine AW.regl false [4] (by rfl) fun K10 hK10 => ?_ -- region 7
      simp only [go_sem, Nat.reduceAdd, Nat.reduceEqDiff, Nat.reduceLeDiff, true_and, List.length_map, hen]
      refine hK10 _ _ ?_; try clear hK10 K10
      conv => enter [5]; simp only [setL_cons, setL_nil, List.set_cons_zero, List.set_cons_succ]
      refine AW.ret ⟨.inr rfl, _, rfl, by simp, ?_⟩ -- return 2
      refine frzI ?_
      rw [hix, hc, List.drop_length]
      rfl

set_option maxRecDepth 100000 in
theorem containsFunc81 {α : Type} (en : α → AV) (hen : ∀ a, aGet prog 30 (en a).cells = some (en a)) (nl : Bool) (l : List α) (hl : l.length ≤ maxLen) (g : FuncId) (hg : Enters prog g) (caps : List AV) (p : α → Bool) (σ : Sto) (hp : ∀ a ∈ l, APureOn prog Γ g (en a :: caps) σ (.val (.bool (p a)))) : APureOn prog Γ 81 [rowAV 4 nl (l.map en), .fn g caps] σ (.val (.bool (l.any p))) := by
  refine APureOn.of func81 rfl fun τ => ?_
  simp only [ntmps81, List.length_cons, List.length_nil, Nat.reduceAdd, Nat.reduceSub, List.replicate_succ, List.replicate_zero, List.cons_append, List.nil_append]
  have hi := (indexFunc102 en hen nl l hl g hg caps p σ hp).more τ
  generalize σ ++ τ = σ at hi ⊢
  refine AW.regl false [4] (by rfl) fun K1 hK1 => ?_ -- region 0
  simp only [go_sem, Nat.reduceAdd, Nat.reduceEqDiff, Nat.reduceLeDiff, true_and]
  refine hK1 _ _ ?_; try clear hK1 K1
  conv => enter [5]; simp only [setL_cons, setL_nil, List.set_cons_zero, List.set_cons_succ]
  refine AW.regl false [4] (by rfl) fun K2 hK2 => ?_ -- region 1
  simp only [go_sem, Nat.reduceAdd, Nat.reduceEqDiff, Nat.reduceLeDiff, true_and]
  refine sC.of en102 (hi).here rfl ?_
  try simp only [go_sem, Nat.reduceAdd, Nat.reduceEqDiff, Nat.reduceLeDiff, true_and]
  refine hK2 _ _ ?_; try clear hK2 K2
  conv => enter [5]; simp only [setL_cons, setL_nil, List.set_cons_zero, List.set_cons_succ]
  refine AW.ret ⟨.inr rfl, _, rfl, by simp, ?_⟩ -- return 1
  refine frzB ?_
  exact idxFrom_nonneg p l 0

set_option maxRecDepth 100000 in
theorem indexFunc103 {α : Type} (en : α → AV) (hen : ∀ a, aGet prog 72 (en a).cells = some (en a)) (nl : Bool) (l : List α) (hl : l.length ≤ maxLen) (g : FuncId) (hg : Enters prog g) (caps : List AV) (p : α → Bool) (σ : Sto) (hp : ∀ a ∈ l, APureOn prog Γ g (en a :: caps) σ (.val (.bool (p a)))) : APureOn prog Γ 103 [rowAV 7 nl (l.map en), .fn g caps] σ (.val (.int .i64 (idxFrom p 0 l))) := by
  refine APureOn.of func103 rfl fun τ => ?_
  simp only [ntmps103, List.length_cons, List.length_nil, Nat.reduceAdd, Nat.reduceSub, List.replicate_succ, List.replicate_zero, List.cons_append, List.nil_append]
  have hp' : ∀ (i : Nat) (h : i < l.length), APureOn prog Γ g (en l[i] :: caps) (σ ++ τ) (.val (.bool (p l[i]))) := fun i h => (hp _ (List.getElem_mem h)).more τ
  generalize σ ++ τ = σ at hp' ⊢
  refine AW.regl false [4] (by rfl) fun K1 hK1 => ?_ -- region 0
  simp only [go_sem, Nat.reduceAdd, Nat.reduceEqDiff, Nat.reduceLeDiff, true_and, List.length_map, hen]
  refine hK1 _ _ ?_; try clear hK1 K1
  conv => enter [5]; simp only [setL_cons, setL_nil, List.set_cons_zero, List.set_cons_succ]
  refine AW.seq_k fun K2 hK2 => ?_
  refine AW.regl false [7, 8] (by rfl) fun K3 hK3 => ?_ -- region 1
  simp only [go_sem, Nat.reduceAdd, Nat.reduceEqDiff, Nat.reduceLeDiff, true_and, List.length_map, hen]
  refine hK3 _ _ ?_; try clear hK3 K3
  conv => enter [5]; simp only [setL_cons, setL_nil, List.set_cons_zero, List.set_cons_succ]
  refine AW.block ?_
  refine AW.loop_wk (α := Nat) (fun i => [(rowAV 7 nl (l.map en)), (.fn g caps), .any, .any, .any, .any, .any, (.val (.int .i64 (l.length : Nat))), (.val (.int .i64 (i : Nat))), .any, .any, .any, .any, .any, .any, .any, .any, .any, .any]) (fun i => σ) (fun i => l.length - i) (fun i => i ≤ l.length ∧ idxFrom p 0 l = idxFrom p i (l.drop i)) 0 ?_ ?_
  · exact ⟨⟨Nat.zero_le _, rfl⟩, by simp [Wk], rfl⟩
  · rintro i ⟨hi, hix⟩
    refine AW.regl false [9] (by rfl) fun K4 hK4 => ?_ -- region 2
    simp only [go_sem, Nat.reduceAdd, Nat.reduceEqDiff, Nat.reduceLeDiff, true_and, List.length_map, hen]
    refine hK4 _ _ ?_; try clear hK4 K4
    conv => enter [5]; simp only [setL_cons, setL_nil, List.set_cons_zero, List.set_cons_succ]
    refine AW.seq_k fun K5 hK5 => ?_
    refine AW.cond rfl (fun hc9 => ?_) (fun hc9 => ?_)
    · skip
      have hc9 : i < l.length := by simpa using hc9
      have hx : (l.map en)[i]? = some (en l[i]) := by simp [hc9]
      rw [idxFrom_drop p l i hc9] at hix
      refine AW.skip ?_
      refine hK5 _ _ ?_; try clear hK5 K5
      refine AW.seq_k fun K6 hK6 => ?_
      refine AW.block ?_
      refine AW.regl false [5] (by rfl) fun K7 hK7 => ?_ -- region 3
      simp only [go_sem, Nat.reduceAdd, Nat.reduceEqDiff, Nat.reduceLeDiff, true_and, List.length_map, hen]
      refine hK7 _ _ ?_; try clear hK7 K7
      conv => enter [5]; simp only [setL_cons, setL_nil, List.set_cons_zero, List.set_cons_succ]
      refine AW.regl false [16] (by rfl) fun K8 hK8 => ?_ -- region 4
      simp only [go_sem, Nat.reduceAdd, Nat.reduceEqDiff, Nat.reduceLeDiff, true_and, List.length_map, hen, at_row hx]
      refine sC.of hg (hp' i hc9).here rfl ?_
      try simp only [go_sem, Nat.reduceAdd, Nat.reduceEqDiff, Nat.reduceLeDiff, true_and, List.length_map, hen, at_row hx]
      refine hK8 _ _ ?_; try clear hK8 K8
      conv => enter [5]; simp only [setL_cons, setL_nil, List.set_cons_zero, List.set_cons_succ]
      refine AW.cond rfl (fun hc16 => ?_) (fun hc16 => ?_)
      · skip
        rw [if_pos hc16] at hix
        refine AW.regl false [4] (by rfl) fun K9 hK9 => ?_ -- region 5
        simp only [go_sem, Nat.reduceAdd, Nat.reduceEqDiff, Nat.reduceLeDiff, true_and, List.length_map, hen]
        refine hK9 _ _ ?_; try clear hK9 K9
        conv => enter [5]; simp only [setL_cons, setL_nil, List.set_cons_zero, List.set_cons_succ]
        refine AW.ret ⟨.inr rfl, _, rfl, by simp, ?_⟩ -- return 1
        refine frzI ?_
        exact hix.symm
      · skip
        rw [if_neg (ne_true_of_eq_false hc16)] at hix
        refine AW.skip ?_
        refine hK6 _ _ ?_; try clear hK6 K6
        refine AW.lastl false [8] (by rfl) fun K hK => ?_ -- region 6
        simp only [go_sem, Nat.reduceAdd, Nat.reduceEqDiff, Nat.reduceLeDiff, true_and, List.length_map, hen]
        refine hK _ _ fun env' hw => ?_
        simp only [setL_cons, setL_nil, List.set_cons_zero, List.set_cons_succ] at hw
        refine ⟨i + 1, by omega, ⟨by omega, hix⟩, ?_, rfl⟩
        refine hw.trans ?_
        simp [Wk, wrap_succ hc9 hl]
    · skip
      have hc : i = l.length := by have : ¬ i < l.length := by simpa using hc9
                                   omega
      refine AW.exit ?_
      refine hK2 _ _ ?_; try clear hK2 K2
      refine AW.regl false [4] (by rfl) fun K10 hK10 => ?_ -- region 7
      simp only [go_sem, Nat.reduceAdd, Nat.reduceEqDiff, Nat.reduceLeDiff, true_and, List.length_map, hen]
      refine hK10 _ _ ?_; try clear hK10 K10
      conv => enter [5]; simp only [setL_cons, setL_nil, List.set_cons_zero, List.set_cons_succ]
      refine AW.ret ⟨.inr rfl, _, rfl, by simp, ?_⟩ -- return 2
      refine frzI ?_
      rw [hix, hc, List.drop_length]
      rfl

set_option maxRecDepth 100000 in
theorem containsFunc84 {α : Type} (en : α → AV) (hen : ∀ a, aGet prog 72 (en a).cells = some (en a)) (nl : Bool) (l : List α) (hl : l.length ≤ maxLen) (g : FuncId) (hg : Enters prog g) (caps : List AV) (p : α → Bool) (σ : Sto) (hp : ∀ a ∈ l, APureOn prog Γ g (en a :: caps) σ (.val (.bool (p a)))) : APureOn prog Γ 84 [rowAV 7 nl (l.map en), .fn g caps] σ (.val (.bool (l.any p))) := by
  refine APureOn.of func84 rfl fun τ => ?_
  simp only [ntmps84, List.length_cons, List.length_nil, Nat.reduceAdd, Nat.reduceSub, List.replicate_succ, List.replicate_zero, List.cons_append, List.nil_append]
  have hi := (indexFunc103 en hen nl l hl g hg caps p σ hp).more τ
  generalize σ ++ τ = σ at hi ⊢
  refine AW.regl false [4] (by rfl) fun K1 hK1 => ?_ -- region 0
  simp only [go_sem, Nat.reduceAdd, Nat.reduceEqDiff, Nat.reduceLeDiff, true_and]
  refine hK1 _ _ ?_; try clear hK1 K1
  conv => enter [5]; simp only [setL_cons, setL_nil, List.set_cons_zero, List.set_cons_succ]
  refine AW.regl false [4] (by rfl) fun K2 hK2 => ?_ -- region 1
  simp only [go_sem, Nat.reduceAdd, Nat.reduceEqDiff, Nat.reduceLeDiff, true_and]
  refine sC.of en103 (hi).here rfl ?_
  try simp only [go_sem, Nat.reduceAdd, Nat.reduceEqDiff, Nat.reduceLeDiff, true_and]
  refine hK2 _ _ ?_; try clear hK2 K2
  conv => enter [5]; simp only [setL_cons, setL_nil, List.set_cons_zero, List.set_cons_succ]
  refine AW.ret ⟨.inr rfl, _, rfl, by simp, ?_⟩ -- return 1
  refine frzB ?_
  exact idxFrom_nonneg p l 0

set_option maxRecDepth 100000 in
theorem indexFunc77 {α : Type} (en : α → AV) (hen : ∀ a, aGet prog 34 (en a).cells = some (en a)) (nl : Bool) (l : List α) (hl : l.length ≤ maxLen) (g : FuncId) (hg : Enters prog g) (caps : List AV) (p : α → Bool) (σ : Sto) (hp : ∀ a ∈ l, APureOn prog Γ g (en a :: caps) σ (.val (.bool (p a)))) : APureOn prog Γ 77 [rowAV 4 nl (l.map en), .fn g caps] σ (.val (.int .i64 (idxFrom p 0 l))) := by
  refine APureOn.of func77 rfl fun τ => ?_
  simp only [ntmps77, List.length_cons, List.length_nil, Nat.reduceAdd, Nat.reduceSub, List.replicate_succ, List.replicate_zero, List.cons_append, List.nil_append]
  have hp' : ∀ (i : Nat) (h : i < l.length), APureOn prog Γ g (en l[i] :: caps) (σ ++ τ) (.val (.bool (p l[i]))) := fun i h => (hp _ (List.getElem_mem h)).more τ
  generalize σ ++ τ = σ at hp' ⊢
  refine AW.regl false [4] (by rfl) fun K1 hK1 => ?_ -- region 0
  simp only [go_sem, Nat.reduceAdd, Nat.reduceEqDiff, Nat.reduceLeDiff, true_and, List.length_map, hen]
  refine hK1 _ _ ?_; try clear hK1 K1
  conv => enter [5]; simp only [setL_cons, setL_nil, List.set_cons_zero, List.set_cons_succ]
  refine AW.seq_k fun K2 hK2 => ?_
  refine AW.regl false [7, 8] (by rfl) fun K3 hK3 => ?_ -- region 1
  simp only [go_sem, Nat.reduceAdd, Nat.reduceEqDiff, Nat.reduceLeDiff, true_and, List.length_map, hen]
  refine hK3 _ _ ?_; try clear hK3 K3
  conv => enter [5]; simp only [setL_cons, setL_nil, List.set_cons_zero, List.set_cons_succ]
  refine AW.block ?_
  refine AW.loop_wk (α := Nat) (fun i => [(rowAV 4 nl (l.map en)), (.fn g caps), .any, .any, .any, .any, .any, (.val (.int .i64 (l.length : Nat))), (.val (.int .i64 (i : Nat))), .any, .any, .any, .any, .any, .any, .any, .any, .any, .any]) (fun i => σ) (fun i => l.length - i) (fun i => i ≤ l.length ∧ idxFrom p 0 l = idxFrom p i (l.drop i)) 0 ?_ ?_
  · exact ⟨⟨Nat.zero_le _, rfl⟩, by simp [Wk], rfl⟩
  · rintro i ⟨hi, hix⟩
    refine AW.regl false [9] (by rfl) fun K4 hK4 => ?_ -- region 2
    simp only [go_sem, Nat.reduceAdd, Nat.reduceEqDiff, Nat.reduceLeDiff, true_and, List.length_map, hen]
    refine hK4 _ _ ?_; try clear hK4 K4
    conv => enter [5]; simp only [setL_cons, setL_nil, List.set_cons_zero, List.set_cons_succ]
    refine AW.seq_k fun K5 hK5 => ?_
    refine AW.cond rfl (fun hc9 => ?_) (fun hc9 => ?_)
    · skip
      have hc9 : i < l.length := by simpa using hc9
      have hx : (l.map en)[i]? = some (en l[i]) := by simp [hc9]
      rw [idxFrom_drop p l i hc9] at hix
      refine AW.skip ?_
      refine hK5 _ _ ?_; try clear hK5 K5
      refine AW.seq_k fun K6 hK6 => ?_
      refine AW.block ?_
      refine AW.regl false [5] (by rfl) fun K7 hK7 => ?_ -- region 3
      simp only [go_sem, Nat.reduceAdd, Nat.reduceEqDiff, Nat.reduceLeDiff, true_and, List.length_map, hen]
      refine hK7 _ _ ?_; try clear hK7 K7
      conv => enter [5]; simp only [setL_cons, setL_nil, List.set_cons_zero, List.set_cons_succ]
      refine AW.regl false [16] (by rfl) fun K8 hK8 => ?_ -- region 4
      simp only [go_sem, Nat.reduceAdd, Nat.reduceEqDiff, Nat.reduceLeDiff, true_and, List.length_map, hen, at_row hx]
      refine sC.of hg (hp' i hc9).here rfl ?_
      try simp only [go_sem, Nat.reduceAdd, Nat.reduceEqDiff, Nat.reduceLeDiff, true_and, List.length_map, hen, at_row hx]
      refine hK8 _ _ ?_; try clear hK8 K8
      conv => enter [5]; simp only [setL_cons, setL_nil, List.set_cons_zero, List.set_cons_succ]
      refine AW.cond rfl (fun hc16 => ?_) (fun hc16 => ?_)
      · skip
        rw [if_pos hc16] at hix
        refine AW.regl false [4] (by rfl) fun K9 hK9 => ?_ -- region 5
        simp only [go_sem, Nat.reduceAdd, Nat.reduceEqDiff, Nat.reduceLeDiff, true_and, List.length_map, hen]
        refine hK9 _ _ ?_; try clear hK9 K9
        conv => enter [5]; simp only [setL_cons, setL_nil, List.set_cons_zero, List.set_cons_succ]
        refine AW.ret ⟨.inr rfl, _, rfl, by simp, ?_⟩ -- return 1
        refine frzI ?_
        exact hix.symm
      · skip
        rw [if_neg (ne_true_of_eq_false hc16)] at hix
        refine AW.skip ?_
        refine hK6 _ _ ?_; try clear hK6 K6
        refine AW.lastl false [8] (by rfl) fun K hK => ?_ -- region 6
        simp only [go_sem, Nat.reduceAdd, Nat.reduceEqDiff, Nat.reduceLeDiff, true_and, List.length_map, hen]
        refine hK _ _ fun env' hw => ?_
        simp only [setL_cons, setL_nil, List.set_cons_zero, List.set_cons_succ] at hw
        refine ⟨i + 1, by omega, ⟨by omega, hix⟩, ?_, rfl⟩
        refine hw.trans ?_
        simp [Wk, wrap_succ hc9 hl]
    · skip
      have hc : i = l.length := by have : ¬ i < l.length := by simpa using hc9
                                   omega
      refine AW.exit ?_
      refine hK2 _ _ ?_; try clear hK2 K2
      refine AW.regl false [4] (by rfl) fun K10 hK10 => ?_ -- region 7
      simp only [go_sem, Nat.reduceAdd, Nat.reduceEqDiff, Nat.reduceLeDiff, true_and, List.length_map, hen]
      refine hK10 _ _ ?_; try clear hK10 K10
      conv => enter [5]; simp only [setL_cons, setL_nil, List.set_cons_zero, List.set_cons_succ]
      refine AW.ret ⟨.inr rfl, _, rfl, by simp, ?_⟩ -- return 2
      refine frzI ?_
      rw [hix, hc, List.drop_length]
      rfl

set_option maxRecDepth 100000 in
theorem containsFunc47 {α : Type} (en : α → AV) (hen : ∀ a, aGet prog 34 (en a).cells = some (en a)) (nl : Bool) (l : List α) (hl : l.length ≤ maxLen) (g : FuncId) (hg : Enters prog g) (caps : List AV) (p : α → Bool) (σ : Sto) (hp : ∀ a ∈ l, APureOn prog Γ g (en a :: caps) σ (.val (.bool (p a)))) : APureOn prog Γ 47 [rowAV 4 nl (l.map en), .fn g caps] σ (.val (.bool (l.any p))) := by
  refine APureOn.of func47 rfl fun τ => ?_
  simp only [ntmps47, List.length_cons, List.length_nil, Nat.reduceAdd, Nat.reduceSub, List.replicate_succ, List.replicate_zero, List.cons_append, List.nil_append]
  have hi := (indexFunc77 en hen nl l hl g hg caps p σ hp).more τ
  generalize σ ++ τ = σ at hi ⊢
  refine AW.regl false [4] (by rfl) fun K1 hK1 => ?_ -- region 0
  simp only [go_sem, Nat.reduceAdd, Nat.reduceEqDiff, Nat.reduceLeDiff, true_and]
  refine hK1 _ _ ?_; try clear hK1 K1
  conv => enter [5]; simp only [setL_cons, setL_nil, List.set_cons_zero, List.set_cons_succ]
  refine AW.regl false [4] (by rfl) fun K2 hK2 => ?_ -- region 1
  simp only [go_sem, Nat.reduceAdd, Nat.reduceEqDiff, Nat.reduceLeDiff, true_and]
  refine sC.of en77 (hi).here rfl ?_
  try simp only [go_sem, Nat.reduceAdd, Nat.reduceEqDiff, Nat.reduceLeDiff, true_and]
  refine hK2 _ _ ?_; try clear hK2 K2
  conv => enter [5]; simp only [setL_cons, setL_nil, List.set_cons_zero, List.set_cons_succ]
  refine AW.ret ⟨.inr rfl, _, rfl, by simp, ?_⟩ -- return 1
  refine frzB ?_
  exact idxFrom_nonneg p l 0

set_option maxRecDepth 100000 in
theorem portfn_calls (p : PortM) : APure prog Γ 79 [p.enc] (.val (.bool (!p.right))) := by
  refine APure.of func79 rfl fun σ => ?_
  simp only [ntmps79, List.length_cons, List.length_nil, Nat.reduceAdd, Nat.reduceSub, List.replicate_succ, List.replicate_zero, List.cons_append, List.nil_append]
  refine AW.regl false [1, 2] (by rfl) fun K1 hK1 => ?_ -- region 0
  simp only [go_sem, Nat.reduceAdd, Nat.reduceEqDiff, Nat.reduceLeDiff, true_and, port_all, port_get]
  refine hK1 _ _ ?_; try clear hK1 K1
  conv => enter [5]; simp only [setL_cons, setL_nil, List.set_cons_zero, List.set_cons_succ]
  refine AW.regl false [2] (by rfl) fun K2 hK2 => ?_ -- region 1
  simp only [go_sem, Nat.reduceAdd, Nat.reduceEqDiff, Nat.reduceLeDiff, true_and, port_all, port_get]
  refine sC.of en80 ((port_calls p).on _).here rfl ?_
  try simp only [go_sem, Nat.reduceAdd, Nat.reduceEqDiff, Nat.reduceLeDiff, true_and, port_all, port_get]
  refine hK2 _ _ ?_; try clear hK2 K2
  conv => enter [5]; simp only [setL_cons, setL_nil, List.set_cons_zero, List.set_cons_succ]
  refine AW.ret ⟨.inr rfl, _, rfl, by simp, ?_⟩ -- return 1
  exact .keep rfl

set_option maxRecDepth 100000 in
theorem outfn_calls (f : FileM) (d : Dgm) (o : OutM) {σ : Sto} {o1 o2 : Nat} (h1 : σ[o1]? = some (.cells f.enc.cells)) (h2 : σ[o2]? = some (.cells d.enc.cells)) : APureOn prog Γ 82 [o.enc, .ref o1 0, .ref o2 0] σ (.val (.bool (!o.port.right || !f.source d o.src))) := by
  refine APureOn.of func82 rfl fun τ => ?_
  simp only [ntmps82, List.length_cons, List.length_nil, Nat.reduceAdd, Nat.reduceSub, List.replicate_succ, List.replicate_zero, List.cons_append, List.nil_append]
  have h1' := getL h1 τ
  have h2' := getL h2 τ
  generalize σ ++ τ = σ at h1' h2' ⊢
  have g1 := getL h1'
  have g2 := getL h2'
  refine AW.regl false [3, 4] (by rfl) fun K1 hK1 => ?_ -- region 0
  simp only [go_sem, Nat.reduceAdd, Nat.reduceEqDiff, Nat.reduceLeDiff, true_and, g1, g2, OutM.enc, dgm_get, file_get]
  refine hK1 _ _ ?_; try clear hK1 K1
  conv => enter [5]; simp only [setL_cons, setL_nil, List.set_cons_zero, List.set_cons_succ]
  refine AW.regtf false 4 (.val (.bool (!(o.port.right) || !(f.source d o.src)))) (by rfl) ?_ ?_ -- region 1
  · skip
    cases h7 : (o.port.right)
    · skip
      simp only [go_sem, Nat.reduceAdd, Nat.reduceEqDiff, Nat.reduceLeDiff, true_and, g1, g2, OutM.enc, dgm_get, file_get, h7]
      refine sC.of en80 ((port_calls o.port).on _).here rfl ?_
      try simp only [go_sem, Nat.reduceAdd, Nat.reduceEqDiff, Nat.reduceLeDiff, true_and, g1, g2, OutM.enc, dgm_get, file_get, h7]
      try simp [upd_at, h7, g1, g2, OutM.enc, dgm_get, file_get]
    · skip
      simp only [go_sem, Nat.reduceAdd, Nat.reduceEqDiff, Nat.reduceLeDiff, true_and, g1, g2, OutM.enc, dgm_get, file_get, h7]
      refine sC.of en80 ((port_calls o.port).on _).here rfl ?_
      try simp only [go_sem, Nat.reduceAdd, Nat.reduceEqDiff, Nat.reduceLeDiff, true_and, g1, g2, OutM.enc, dgm_get, file_get, h7]
      refine sC.of en83 ((source_calls f d o.src).on _).here rfl ?_
      try simp only [go_sem, Nat.reduceAdd, Nat.reduceEqDiff, Nat.reduceLeDiff, true_and, g1, g2, OutM.enc, dgm_get, file_get, h7]
      try simp [upd_at, h7, g1, g2, OutM.enc, dgm_get, file_get]
  conv => enter [5]; simp only [List.set_cons_zero, List.set_cons_succ]
  refine AW.ret ⟨.inr rfl, _, rfl, by simp, ?_⟩ -- return 1
  exact .keep rfl

set_option maxRecDepth 100000 in
theorem blockfn_calls (f : FileM) (d : Dgm) (b : Blk) (hb : b.ok) {σ : Sto} {o1 o2 : Nat} (h1 : σ[o1]? = some (.cells f.enc.cells)) (h2 : σ[o2]? = some (.cells d.enc.cells)) : APureOn prog GK 85 [b.enc, .ref o1 0, .ref o2 0] σ (.val (.bool (!f.block d b))) := by
  refine APureOn.of func85 rfl fun τ => ?_
  simp only [ntmps85, List.length_cons, List.length_nil, Nat.reduceAdd, Nat.reduceSub, List.replicate_succ, List.replicate_zero, List.cons_append, List.nil_append]
  have h1' := getL h1 τ
  have h2' := getL h2 τ
  generalize σ ++ τ = σ at h1' h2' ⊢
  have g1 := getL h1'
  have g2 := getL h2'
  refine AW.regl false [3, 4] (by rfl) fun K1 hK1 => ?_ -- region 0
  simp only [go_sem, Nat.reduceAdd, Nat.reduceEqDiff, Nat.reduceLeDiff, true_and, g1, g2, blk_get, blk_all, dgm_get, file_get]
  refine hK1 _ _ ?_; try clear hK1 K1
  conv => enter [5]; simp only [setL_cons, setL_nil, List.set_cons_zero, List.set_cons_succ]
  refine AW.regl false [4] (by rfl) fun K2 hK2 => ?_ -- region 1
  simp only [go_sem, Nat.reduceAdd, Nat.reduceEqDiff, Nat.reduceLeDiff, true_and, g1, g2, blk_get, blk_all, dgm_get, file_get]
  refine sC.of en86 ((block_calls f d b hb).on _).here rfl ?_
  try simp only [go_sem, Nat.reduceAdd, Nat.reduceEqDiff, Nat.reduceLeDiff, true_and, g1, g2, blk_get, blk_all, dgm_get, file_get]
  refine hK2 _ _ ?_; try clear hK2 K2
  conv => enter [5]; simp only [setL_cons, setL_nil, List.set_cons_zero, List.set_cons_succ]
  refine AW.ret ⟨.inr rfl, _, rfl, by simp, ?_⟩ -- return 1
  exact .keep rfl

set_option maxRecDepth 100000 in
theorem diagram_calls (f : FileM) (d : Dgm) (hd : d.ok) : APure prog GK 49 [f.enc, d.enc] (.val (.bool (f.diagram d))) := by
  refine APure.of func49 rfl fun σ => ?_
  simp only [ntmps49, List.length_cons, List.length_nil, Nat.reduceAdd, Nat.reduceSub, List.replicate_succ, List.replicate_zero, List.cons_append, List.nil_append]
  obtain ⟨name, nlI, ins, nlO, outs, nlB, blocks⟩ := d
  obtain ⟨d1, ⟨d2, d3⟩, ⟨d4, d5⟩, d6, d7⟩ := hd
  have h2 : Dgm.enc ⟨name, nlI, ins, nlO, outs, nlB, blocks⟩ = .agg [str name, rowAV 2 nlI (ins.map PortM.enc), rowAV 4 nlO (outs.map OutM.enc), rowAV 7 nlB (blocks.map Blk.enc)] := rfl
  refine AW.regl false [2, 3, 4] (by rfl) fun K1 hK1 => ?_ -- region 0
  simp only [go_sem, Nat.reduceAdd, Nat.reduceEqDiff, Nat.reduceLeDiff, true_and, file_all, Dgm.enc, List.length_map]
  refine hK1 _ _ ?_; try clear hK1 K1
  conv => enter [5]; simp only [setL_cons, setL_nil, List.set_cons_zero, List.set_cons_succ]
  refine AW.regtf false 5 (.val (.bool (((decide ((ins.length : Int) ≤ 16777215) && decide ((outs.length : Int) ≤ 16777215)) && decide ((blocks.length : Int) ≤ 16777215)) && decide ((name.size : Int) ≤ 65535)))) (by rfl) ?_ ?_ -- region 1
  · skip
    cases h11 : (decide ((ins.length : Int) ≤ 16777215))
    · skip
      simp only [go_sem, Nat.reduceAdd, Nat.reduceEqDiff, Nat.reduceLeDiff, true_and, file_all, Dgm.enc, List.length_map, h11]
      try simp [upd_at, h11, file_all, Dgm.enc, List.length_map]
    · skip
      cases h16 : (decide ((outs.length : Int) ≤ 16777215))
      · skip
        simp only [go_sem, Nat.reduceAdd, Nat.reduceEqDiff, Nat.reduceLeDiff, true_and, file_all, Dgm.enc, List.length_map, h11, h16]
        try simp [upd_at, h11, h16, file_all, Dgm.enc, List.length_map]
      · skip
        cases h22 : (decide ((blocks.length : Int) ≤ 16777215))
        · skip
          simp only [go_sem, Nat.reduceAdd, Nat.reduceEqDiff, Nat.reduceLeDiff, true_and, file_all, Dgm.enc, List.length_map, h11, h16, h22]
          try simp [upd_at, h11, h16, h22, file_all, Dgm.enc, List.length_map]
        · skip
          simp only [go_sem, Nat.reduceAdd, Nat.reduceEqDiff, Nat.reduceLeDiff, true_and, file_all, Dgm.enc, List.length_map, h11, h16, h22]
          try simp [upd_at, h11, h16, h22, file_all, Dgm.enc, List.length_map]
  conv => enter [5]; simp only [List.set_cons_zero, List.set_cons_succ]
  generalize hP5 : ((((decide ((ins.length : Int) ≤ 16777215) && decide ((outs.length : Int) ≤ 16777215)) && decide ((blocks.length : Int) ≤ 16777215)) && decide ((name.size : Int) ≤ 65535))) = P5
  refine AW.regl false [6] (by rfl) fun K3 hK3 => ?_ -- region 2
  simp only [go_sem, Nat.reduceAdd, Nat.reduceEqDiff, Nat.reduceLeDiff, true_and, file_all, Dgm.enc, List.length_map]
  refine sC.of en78 (containsFunc78 PortM.enc port_get nlI ins d2 79 en79 [] (fun p => !p.right) _ (fun p _ => (portfn_calls p).on _)).here rfl ?_
  try simp only [go_sem, Nat.reduceAdd, Nat.reduceEqDiff, Nat.reduceLeDiff, true_and, file_all, Dgm.enc, List.length_map]
  refine hK3 _ _ ?_; try clear hK3 K3
  conv => enter [5]; simp only [setL_cons, setL_nil, List.set_cons_zero, List.set_cons_succ]
  generalize hP6 : (!(ins.any fun p => !p.right)) = P6
  refine AW.regl false [7] (by rfl) fun K4 hK4 => ?_ -- region 3
  simp only [go_sem, Nat.reduceAdd, Nat.reduceEqDiff, Nat.reduceLeDiff, true_and, file_all, Dgm.enc, List.length_map]
  refine sC.of en81 (containsFunc81 OutM.enc out_get nlO outs d4 82 en82 _ (fun o => (!o.port.right || !f.source ⟨name, nlI, ins, nlO, outs, nlB, blocks⟩ o.src)) _ (fun o _ => outfn_calls f ⟨name, nlI, ins, nlO, outs, nlB, blocks⟩ o (by simp) (by simp [Dgm.enc, AV.cells]))).here rfl ?_
  try simp only [go_sem, Nat.reduceAdd, Nat.reduceEqDiff, Nat.reduceLeDiff, true_and, file_all, Dgm.enc, List.length_map]
  refine hK4 _ _ ?_; try clear hK4 K4
  conv => enter [5]; simp only [setL_cons, setL_nil, List.set_cons_zero, List.set_cons_succ]
  generalize hP7 : (!(outs.any fun o => (!o.port.right || !f.source ⟨name, nlI, ins, nlO, outs, nlB, blocks⟩ o.src))) = P7
  refine AW.regtf false 4 (.val (.bool (((P5 && P6) && P7) && !(blocks.any fun b => !f.block ⟨name, nlI, ins, nlO, outs, nlB, blocks⟩ b)))) (by rfl) ?_ ?_ -- region 4
  · skip
    cases h5 : (P5)
    · skip
      simp only [go_sem, Nat.reduceAdd, Nat.reduceEqDiff, Nat.reduceLeDiff, true_and, file_all, Dgm.enc, List.length_map, h5]
      try simp [upd_at, h5, file_all, Dgm.enc, List.length_map]
    · skip
      cases h6 : (P6)
      · skip
        simp only [go_sem, Nat.reduceAdd, Nat.reduceEqDiff, Nat.reduceLeDiff, true_and, file_all, Dgm.enc, List.length_map, h5, h6]
        try simp [upd_at, h5, h6, file_all, Dgm.enc, List.length_map]
      · skip
        cases h7 : (P7)
        · skip
          simp only [go_sem, Nat.reduceAdd, Nat.reduceEqDiff, Nat.reduceLeDiff, true_and, file_all, Dgm.enc, List.length_map, h5, h6, h7]
          try simp [upd_at, h5, h6, h7, file_all, Dgm.enc, List.length_map]
        · skip
          simp only [go_sem, Nat.reduceAdd, Nat.reduceEqDiff, Nat.reduceLeDiff, true_and, file_all, Dgm.enc, List.length_map, h5, h6, h7]
          refine sC.of en84 (containsFunc84 Blk.enc blk_get nlB blocks d6 85 en85 _ (fun b => !f.block ⟨name, nlI, ins, nlO, outs, nlB, blocks⟩ b) _ (fun b hb => blockfn_calls f ⟨name, nlI, ins, nlO, outs, nlB, blocks⟩ b (d7 b hb) (by simp) (by simp [Dgm.enc, AV.cells]))).here rfl ?_
          try simp only [go_sem, Nat.reduceAdd, Nat.reduceEqDiff, Nat.reduceLeDiff, true_and, file_all, Dgm.enc, List.length_map, h5, h6, h7]
          try simp [upd_at, h5, h6, h7, file_all, Dgm.enc, List.length_map]
  conv => enter [5]; simp only [List.set_cons_zero, List.set_cons_succ]
  refine AW.ret ⟨.inr rfl, _, rfl, by simp, ?_⟩ -- return 1
  refine frzB ?_
  subst_vars
  rfl

set_option maxRecDepth 100000 in
theorem dgmfn_calls (f : FileM) (d : Dgm) (hd : d.ok) {σ : Sto} {o1 : Nat} (h1 : σ[o1]? = some (.cells f.enc.cells)) : APureOn prog GK 48 [d.enc, .ref o1 0] σ (.val (.bool (!f.diagram d))) := by
  refine APureOn.of func48 rfl fun τ => ?_
  simp only [ntmps48, List.length_cons, List.length_nil, Nat.reduceAdd, Nat.reduceSub, List.replicate_succ, List.replicate_zero, List.cons_append, List.nil_append]
  have h1' := getL h1 τ
  generalize σ ++ τ = σ at h1' ⊢
  have g1 := getL h1'
  refine AW.regl false [2, 3] (by rfl) fun K1 hK1 => ?_ -- region 0
  simp only [go_sem, Nat.reduceAdd, Nat.reduceEqDiff, Nat.reduceLeDiff, true_and, g1, dgm_get, dgm_all, file_get]
  refine hK1 _ _ ?_; try clear hK1 K1
  conv => enter [5]; simp only [setL_cons, setL_nil, List.set_cons_zero, List.set_cons_succ]
  refine AW.regl false [3] (by rfl) fun K2 hK2 => ?_ -- region 1
  simp only [go_sem, Nat.reduceAdd, Nat.reduceEqDiff, Nat.reduceLeDiff, true_and, g1, dgm_get, dgm_all, file_get]
  refine sC.of en49 ((diagram_calls f d hd).on _).here rfl ?_
  try simp only [go_sem, Nat.reduceAdd, Nat.reduceEqDiff, Nat.reduceLeDiff, true_and, g1, dgm_get, dgm_all, file_get]
  refine hK2 _ _ ?_; try clear hK2 K2
  conv => enter [5]; simp only [setL_cons, setL_nil, List.set_cons_zero, List.set_cons_succ]
  refine AW.ret ⟨.inr rfl, _, rfl, by simp, ?_⟩ -- return 1
  exact .keep rfl

set_option maxRecDepth 100000 in
theorem right_calls (f : FileM) (hf : f.ok) : APure prog GK 9 [f.enc] (.val (.bool f.right)) := by
  refine APure.of func9 rfl fun σ => ?_
  simp only [ntmps9, List.length_cons, List.length_nil, Nat.reduceAdd, Nat.reduceSub, List.replicate_succ, List.replicate_zero, List.cons_append, List.nil_append]
  obtain ⟨fnl, ds⟩ := f
  obtain ⟨f1, f2⟩ := hf
  refine AW.regl false [1, 2] (by rfl) fun K1 hK1 => ?_ -- region 0
  simp only [go_sem, Nat.reduceAdd, Nat.reduceEqDiff, Nat.reduceLeDiff, true_and, FileM.enc, List.length_map]
  refine hK1 _ _ ?_; try clear hK1 K1
  conv => enter [5]; simp only [setL_cons, setL_nil, List.set_cons_zero, List.set_cons_succ]
  refine AW.regtf false 2 (.val (.bool (decide ((ds.length : Int) ≤ 16777215) && !(ds.any fun d => !FileM.diagram ⟨fnl, ds⟩ d)))) (by rfl) ?_ ?_ -- region 1
  · skip
    cases h6 : (decide ((ds.length : Int) ≤ 16777215))
    · skip
      simp only [go_sem, Nat.reduceAdd, Nat.reduceEqDiff, Nat.reduceLeDiff, true_and, FileM.enc, List.length_map, h6]
      try simp [upd_at, h6, FileM.enc, List.length_map]
    · skip
      simp only [go_sem, Nat.reduceAdd, Nat.reduceEqDiff, Nat.reduceLeDiff, true_and, FileM.enc, List.length_map, h6]
      refine sC.of en47 (containsFunc47 Dgm.enc dgm_get fnl ds f1 48 en48 _ (fun d => !FileM.diagram ⟨fnl, ds⟩ d) _ (fun d hd => dgmfn_calls ⟨fnl, ds⟩ d (f2 d hd) (by simp [FileM.enc, AV.cells]))).here rfl ?_
      try simp only [go_sem, Nat.reduceAdd, Nat.reduceEqDiff, Nat.reduceLeDiff, true_and, FileM.enc, List.length_map, h6]
      try simp [upd_at, h6, FileM.enc, List.length_map]
  conv => enter [5]; simp only [List.set_cons_zero, List.set_cons_succ]
  refine AW.ret ⟨.inr rfl, _, rfl, by simp, ?_⟩ -- return 1
  refine frzB ?_
  rfl
end Go.Proofs.Tryd
