import Derived.Test.YteekpkbmkibacaaDoorAstT
/-! The law AstPrograms. -/
namespace Go.Proofs.Tryd
set_option linter.unusedSimpArgs false
set_option linter.unusedVariables false
open Go Go.Proofs.Ev
namespace A
variable {Γ : List (Nat × List AV)}
theorem map_ext {α β : Type} {f g : α → β} {l : List α} (h : ∀ a ∈ l, f a = g a) : l.map f = l.map g := List.map_congr_left h
theorem norm_size : ∀ e : E, e.norm.size = e.size := E.ind fun k o n s nl l ih => by
  have go : ∀ l : List E, (∀ e ∈ l, e.norm.size = e.size) → sizeL (l.map E.norm) = sizeL l := by
    intro l
    induction l with
    | nil => intro _; rfl
    | cons e l ih' =>
      intro h
      simp only [List.map_cons, sizeL, h e List.mem_cons_self, ih' fun d hd => h d (List.mem_cons_of_mem _ hd)]
  rw [E.norm_mk, E.size, E.size, go l ih]
theorem norm_depth : ∀ e : E, e.norm.depth = e.depth := E.ind fun k o n s nl l ih => by
  have go : ∀ l : List E, (∀ e ∈ l, e.norm.depth = e.depth) → depthL (l.map E.norm) = depthL l := by
    intro l
    induction l with
    | nil => intro _; rfl
    | cons e l ih' =>
      intro h
      simp only [List.map_cons, depthL, h e List.mem_cons_self, ih' fun d hd => h d (List.mem_cons_of_mem _ hd)]
  rw [E.norm_mk, E.depth, E.depth, go l ih]
theorem norm_shape : ∀ e : E, e.norm.shape = e.shape := E.ind fun k o n s nl l ih => by
  have go : ∀ l : List E, (∀ e ∈ l, e.norm.shape = e.shape) → shapeL (l.map E.norm) = shapeL l := by
    intro l
    induction l with
    | nil => intro _; rfl
    | cons e l ih' =>
      intro h
      simp only [List.map_cons, shapeL, h e List.mem_cons_self, ih' fun d hd => h d (List.mem_cons_of_mem _ hd)]
  rw [E.norm_mk, E.shape, E.shape, go l ih, List.length_map]
theorem norm_norm : ∀ e : E, e.norm.norm = e.norm := E.ind fun k o n s nl l ih => by
  rw [E.norm_mk, E.norm_mk, List.map_map]
  congr 1
  exact List.map_congr_left ih
theorem norm_pre : ∀ e : E, e.norm.pre = e.pre.map E.norm := E.ind fun k o n s nl l ih => by
  have go : ∀ l : List E, (∀ e ∈ l, e.norm.pre = e.pre.map E.norm) → preL (l.map E.norm) = (preL l).map E.norm := by
    intro l
    induction l with
    | nil => intro _; rfl
    | cons e l ih' =>
      intro h
      simp only [List.map_cons, preL, List.map_append, h e List.mem_cons_self, ih' fun d hd => h d (List.mem_cons_of_mem _ hd)]
  rw [E.norm_mk, E.pre, E.pre, go l ih, List.map_cons, E.norm_mk]
theorem norm_fits {e : E} (h : e.fits) : e.norm.fits := by
  intro d hd
  rw [norm_pre] at hd
  obtain ⟨x, hx, rfl⟩ := List.mem_map.1 hd
  have := h x hx
  cases x
  rw [E.norm_mk]
  exact this
theorem own_exprR (e : E) : exprR e.norm = exprR e := by rw [exprR, exprR, norm_shape, norm_depth]
theorem eqown_ok {q : EqM} (h : q.ok) : q.own.ok := ⟨h.1, by rw [EqM.own, norm_size]; exact h.2.1, norm_fits h.2.2⟩
theorem nodeown_ok {n : NodeM} (h : n.ok) : n.own.ok := by
  refine ⟨h.1, h.2.1, h.2.2.1, h.2.2.2.1, by simpa [NodeM.own] using h.2.2.2.2.1, fun q hq => ?_⟩
  obtain ⟨x, hx, rfl⟩ := List.mem_map.1 hq
  exact eqown_ok (h.2.2.2.2.2 x hx)
theorem progown_ok {p : ProgM} (h : p.ok) : p.own.ok := by
  refine ⟨by simpa [ProgM.own] using h.1, fun n hn => ?_⟩
  obtain ⟨x, hx, rfl⟩ := List.mem_map.1 hn
  exact nodeown_ok (h.2 x hx)
theorem eqown_right (q : EqM) : q.own.right = q.right := by
  show (_ && exprR q.rhs.norm) = _
  rw [own_exprR]
  rfl
theorem nodeown_right (n : NodeM) : n.own.right = n.right := by
  have : n.own.eqs.any (fun q => !q.right) = n.eqs.any fun q => !q.right := by
    simp only [NodeM.own, List.any_map]
    congr 1
    funext q
    simp only [Function.comp, eqown_right]
  unfold NodeM.right
  rw [this]
  simp [NodeM.own]
theorem progown_right (p : ProgM) : p.own.right = p.right := by
  have : p.own.nodes.any (fun n => !n.right) = p.nodes.any fun n => !n.right := by
    simp only [ProgM.own, List.any_map]
    congr 1
    funext n
    simp only [Function.comp, nodeown_right]
  unfold ProgM.right
  rw [this]
  simp [ProgM.own]
theorem nodeown_key (n : NodeM) : n.own.key = n.key := by
  have : n.own.eqs.map EqM.key = n.eqs.map EqM.key := by
    simp only [NodeM.own, List.map_map]
    refine List.map_congr_left fun q _ => ?_
    simp [EqM.own, EqM.key, norm_norm]
  unfold NodeM.key
  rw [this]
  rfl
theorem progown_key (p : ProgM) : p.own.key = p.key := by
  simp only [ProgM.own, ProgM.key, List.map_map]
  exact List.map_congr_left fun n _ => nodeown_key n
set_option maxRecDepth 100000 in
set_option maxHeartbeats 1000000 in
theorem astPrograms_calls (hΓ : Words Γ) (p o : ProgM) (name : ByteArray) (hpk : p.ok) (hok : o.ok) (hpt : totN p.nodes ≤ 1100000) (hot : totN o.nodes ≤ 1100000) (hn : name.size ≤ 1100000) : APure prog Γ 8 [p.enc, o.enc, str name] (bool true) := by
  refine APure.of func8 rfl fun σ => ?_
  simp only [ntmps8, List.length_cons, List.length_nil, Nat.reduceAdd, Nat.reduceSub, List.replicate_succ, List.replicate_zero, List.cons_append, List.nil_append]
  have hl : p.nodes.length ≤ maxLen := by rw [maxLen_eq]; have := hpk.1; omega
  have hR34 : APure prog Γ 34 [p.own.enc] (bool p.right) := by rw [← progown_right]; exact pright_calls hΓ p.own (progown_ok hpk)
  have hS41 : APure prog Γ 41 [p.own.enc, o.own.enc] (bool (decide (p.key = o.key))) := by
    have := psame_calls (Γ := Γ) p.own o.own (progown_ok hpk)
    rwa [progown_key, progown_key] at this
  refine AW.regl false [3, 4, 6] (by rfl) fun K1 hK1 => ?_ -- region 0
  simp only [go_sem, Nat.reduceAdd, Nat.reduceEqDiff, Nat.reduceLeDiff, true_and, ProgM.enc, NodeM.enc, EqM.enc, VarM.enc, enc_one, enc_len, enc_get43, enc_get47, eqc_get81, eqc_get128, List.length_map, List.length_cons, List.all_cons, one_row, len_row, ba_beqL, prog_all, List.drop_zero]
  refine hK1 _ _ ?_; try clear hK1 K1
  conv => enter [5]; simp only [setL_cons, setL_nil, List.set_cons_zero, List.set_cons_succ]
  refine AW.seq_k fun K2 hK2 => ?_
  refine AW.regtf false 19 (.val (.bool ((p.great || o.great) || (decide (((name.size : Nat) : Int) > 300))))) (by rfl) ?_ ?_ -- region 1
  · skip
    cases h10 : (p.great)
    · skip
      cases h13 : (o.great)
      · skip
        simp only [go_sem, Nat.reduceAdd, Nat.reduceEqDiff, Nat.reduceLeDiff, true_and, ProgM.enc, NodeM.enc, EqM.enc, VarM.enc, enc_one, enc_len, enc_get43, enc_get47, eqc_get81, eqc_get128, List.length_map, List.length_cons, List.all_cons, one_row, len_row, ba_beqL, prog_all, List.drop_zero, h10, h13]
        refine sC.of en40 ((great_calls p hpk hpt).on _).here (by rfl) ?_
        simp only [go_sem, Nat.reduceAdd, Nat.reduceEqDiff, Nat.reduceLeDiff, true_and, ProgM.enc, NodeM.enc, EqM.enc, VarM.enc, enc_one, enc_len, enc_get43, enc_get47, eqc_get81, eqc_get128, List.length_map, List.length_cons, List.all_cons, one_row, len_row, ba_beqL, prog_all, List.drop_zero, h10, h13]
        refine sC.of en40 ((great_calls o hok hot).on _).here (by rfl) ?_
        simp only [go_sem, Nat.reduceAdd, Nat.reduceEqDiff, Nat.reduceLeDiff, true_and, ProgM.enc, NodeM.enc, EqM.enc, VarM.enc, enc_one, enc_len, enc_get43, enc_get47, eqc_get81, eqc_get128, List.length_map, List.length_cons, List.all_cons, one_row, len_row, ba_beqL, prog_all, List.drop_zero, h10, h13]
        try simp [upd_at, h10, h13, ProgM.enc, NodeM.enc, EqM.enc, VarM.enc, enc_one, enc_len, enc_get43, enc_get47, eqc_get81, eqc_get128, List.length_map, List.length_cons, List.all_cons, one_row, len_row, ba_beqL, prog_all, List.drop_zero]
      · skip
        simp only [go_sem, Nat.reduceAdd, Nat.reduceEqDiff, Nat.reduceLeDiff, true_and, ProgM.enc, NodeM.enc, EqM.enc, VarM.enc, enc_one, enc_len, enc_get43, enc_get47, eqc_get81, eqc_get128, List.length_map, List.length_cons, List.all_cons, one_row, len_row, ba_beqL, prog_all, List.drop_zero, h10, h13]
        refine sC.of en40 ((great_calls p hpk hpt).on _).here (by rfl) ?_
        simp only [go_sem, Nat.reduceAdd, Nat.reduceEqDiff, Nat.reduceLeDiff, true_and, ProgM.enc, NodeM.enc, EqM.enc, VarM.enc, enc_one, enc_len, enc_get43, enc_get47, eqc_get81, eqc_get128, List.length_map, List.length_cons, List.all_cons, one_row, len_row, ba_beqL, prog_all, List.drop_zero, h10, h13]
        refine sC.of en40 ((great_calls o hok hot).on _).here (by rfl) ?_
        simp only [go_sem, Nat.reduceAdd, Nat.reduceEqDiff, Nat.reduceLeDiff, true_and, ProgM.enc, NodeM.enc, EqM.enc, VarM.enc, enc_one, enc_len, enc_get43, enc_get47, eqc_get81, eqc_get128, List.length_map, List.length_cons, List.all_cons, one_row, len_row, ba_beqL, prog_all, List.drop_zero, h10, h13]
        try simp [upd_at, h10, h13, ProgM.enc, NodeM.enc, EqM.enc, VarM.enc, enc_one, enc_len, enc_get43, enc_get47, eqc_get81, eqc_get128, List.length_map, List.length_cons, List.all_cons, one_row, len_row, ba_beqL, prog_all, List.drop_zero]
    · skip
      simp only [go_sem, Nat.reduceAdd, Nat.reduceEqDiff, Nat.reduceLeDiff, true_and, ProgM.enc, NodeM.enc, EqM.enc, VarM.enc, enc_one, enc_len, enc_get43, enc_get47, eqc_get81, eqc_get128, List.length_map, List.length_cons, List.all_cons, one_row, len_row, ba_beqL, prog_all, List.drop_zero, h10]
      refine sC.of en40 ((great_calls p hpk hpt).on _).here (by rfl) ?_
      simp only [go_sem, Nat.reduceAdd, Nat.reduceEqDiff, Nat.reduceLeDiff, true_and, ProgM.enc, NodeM.enc, EqM.enc, VarM.enc, enc_one, enc_len, enc_get43, enc_get47, eqc_get81, eqc_get128, List.length_map, List.length_cons, List.all_cons, one_row, len_row, ba_beqL, prog_all, List.drop_zero, h10]
      try simp [upd_at, h10, ProgM.enc, NodeM.enc, EqM.enc, VarM.enc, enc_one, enc_len, enc_get43, enc_get47, eqc_get81, eqc_get128, List.length_map, List.length_cons, List.all_cons, one_row, len_row, ba_beqL, prog_all, List.drop_zero]
  conv => enter [5]; simp only [List.set_cons_zero, List.set_cons_succ]
  refine AW.cond rfl (fun hc19 => ?_) (fun hc19 => ?_)
  · skip
    refine AW.regl false [6] (by rfl) fun K4 hK4 => ?_ -- region 2
    simp only [go_sem, Nat.reduceAdd, Nat.reduceEqDiff, Nat.reduceLeDiff, true_and, ProgM.enc, NodeM.enc, EqM.enc, VarM.enc, enc_one, enc_len, enc_get43, enc_get47, eqc_get81, eqc_get128, List.length_map, List.length_cons, List.all_cons, one_row, len_row, ba_beqL, prog_all, List.drop_zero]
    refine hK4 _ _ ?_; try clear hK4 K4
    conv => enter [5]; simp only [setL_cons, setL_nil, List.set_cons_zero, List.set_cons_succ]
    refine AW.ret ⟨.inr rfl, _, rfl, by simp, ?_⟩ -- return 1
    exact .keep rfl
  · skip
    refine AW.skip ?_
    refine hK2 _ _ ?_; try clear hK2 K2
    refine AW.regl false [7] (by rfl) fun K5 hK5 => ?_ -- region 3
    simp only [go_sem, Nat.reduceAdd, Nat.reduceEqDiff, Nat.reduceLeDiff, true_and, ProgM.enc, NodeM.enc, EqM.enc, VarM.enc, enc_one, enc_len, enc_get43, enc_get47, eqc_get81, eqc_get128, List.length_map, List.length_cons, List.all_cons, one_row, len_row, ba_beqL, prog_all, List.drop_zero]
    refine sC.of en33 ((oprog_calls p hpk).on _).here (by rfl) ?_
    simp only [go_sem, Nat.reduceAdd, Nat.reduceEqDiff, Nat.reduceLeDiff, true_and, ProgM.enc, NodeM.enc, EqM.enc, VarM.enc, enc_one, enc_len, enc_get43, enc_get47, eqc_get81, eqc_get128, List.length_map, List.length_cons, List.all_cons, one_row, len_row, ba_beqL, prog_all, List.drop_zero]
    refine hK5 _ _ ?_; try clear hK5 K5
    conv => enter [5]; simp only [setL_cons, setL_nil, List.set_cons_zero, List.set_cons_succ, upd_none, upd_at]
    refine AW.seq_k fun K6 hK6 => ?_
    refine AW.regl false [8] (by rfl) fun K7 hK7 => ?_ -- region 4
    simp only [go_sem, Nat.reduceAdd, Nat.reduceEqDiff, Nat.reduceLeDiff, true_and, ProgM.enc, NodeM.enc, EqM.enc, VarM.enc, enc_one, enc_len, enc_get43, enc_get47, eqc_get81, eqc_get128, List.length_map, List.length_cons, List.all_cons, one_row, len_row, ba_beqL, prog_all, List.drop_zero]
    refine hK7 _ _ ?_; try clear hK7 K7
    conv => enter [5]; simp only [setL_cons, setL_nil, List.set_cons_zero, List.set_cons_succ]
    refine AW.block ?_
    refine AW.loop_wk (α := Nat) (fun i => [.any, .any, (.val (.string name)), (.ref σ.length 0), (.ref (σ.length + 1) 0), .any, .any, (.ref (σ.length + 2) 0), (.val (.int .i64 ((i : Nat) : Int))), .any, .any, .any, .any, .any, .any, .any, .any, .any, .any, .any, .any, .any, .any, .any, .any, .any, .any, .any, .any, .any, .any, .any, .any, .any, .any, .any, .any, .any, .any, .any, .any, .any, .any, .any, .any, .any, .any, .any, .any, .any, .any, .any, .any, .any, .any, .any, .any, .any, .any, .any, .any, .any, .any, .any, .any, .any, .any, .any, .any, .any, .any, .any, .any, .any]) (fun i => σ ++ [.cells (ProgM.enc p).cells, .cells (ProgM.enc o).cells, .cells (ProgM.enc p.own).cells]) (fun i => p.nodes.length - i) (fun i => i ≤ p.nodes.length) 0 ?_ ?_
    · exact ⟨Nat.zero_le _, by simp [Wk], rfl⟩
    · intro i hi
      refine AW.seq_k fun K8 hK8 => ?_
      refine AW.regl false [26] (by rfl) fun K9 hK9 => ?_ -- region 5
      simp only [go_sem, Nat.reduceAdd, Nat.reduceEqDiff, Nat.reduceLeDiff, true_and, ProgM.enc, NodeM.enc, EqM.enc, VarM.enc, enc_one, enc_len, enc_get43, enc_get47, eqc_get81, eqc_get128, List.length_map, List.length_cons, List.all_cons, one_row, len_row, ba_beqL, prog_all, List.drop_zero]
      refine hK9 _ _ ?_; try clear hK9 K9
      conv => enter [5]; simp only [setL_cons, setL_nil, List.set_cons_zero, List.set_cons_succ]
      refine AW.cond rfl (fun hc26 => ?_) (fun hc26 => ?_)
      · skip
        have hi1 : i < p.nodes.length := by simpa using hc26
        obtain ⟨m, hm⟩ : ∃ z, z = p.nodes[i] := ⟨_, rfl⟩
        have hx : (p.nodes.map NodeM.enc)[i]? = some (NodeM.enc m) := by rw [hm, List.getElem?_map, List.getElem?_eq_getElem hi1]; rfl
        have hy : (p.own.nodes.map NodeM.enc)[i]? = some (NodeM.enc m.own) := by rw [ProgM.own, List.map_map, List.getElem?_map, List.getElem?_eq_getElem hi1, ← hm]; rfl
        have hm0 : m.ok := hpk.2 m (by rw [hm]; exact mem_at hi1)
        have hR36 : APure prog Γ 36 [m.own.enc] (bool m.right) := by rw [← nodeown_right]; exact nright_calls hΓ m.own (nodeown_ok hm0)
        refine AW.skip ?_
        refine hK8 _ _ ?_; try clear hK8 K8
        refine AW.seq_k fun K10 hK10 => ?_
        refine AW.block ?_
        refine AW.regdl mixed false [41] (by kernel_rfl) (by rfl) fun K11 hK11 => ?_ -- region 7
        simp only [go_sem, Nat.reduceAdd, Nat.reduceEqDiff, Nat.reduceLeDiff, true_and, ProgM.enc, NodeM.enc, EqM.enc, VarM.enc, enc_one, enc_len, enc_get43, enc_get47, eqc_get81, eqc_get128, List.length_map, List.length_cons, List.all_cons, one_row, len_row, ba_beqL, prog_all, List.drop_zero, at_row hx, at_row hy, bin_bneq tyBool4]
        refine qC.of en36 (hR36.on _).here (by rfl) ?_
        simp only [go_sem, Nat.reduceAdd, Nat.reduceEqDiff, Nat.reduceLeDiff, true_and, ProgM.enc, NodeM.enc, EqM.enc, VarM.enc, enc_one, enc_len, enc_get43, enc_get47, eqc_get81, eqc_get128, List.length_map, List.length_cons, List.all_cons, one_row, len_row, ba_beqL, prog_all, List.drop_zero, at_row hx, at_row hy, bin_bneq tyBool4]
        refine qC.of en37 ((rnright_calls m hm0).on _).here (by rfl) ?_
        simp only [go_sem, Nat.reduceAdd, Nat.reduceEqDiff, Nat.reduceLeDiff, true_and, ProgM.enc, NodeM.enc, EqM.enc, VarM.enc, enc_one, enc_len, enc_get43, enc_get47, eqc_get81, eqc_get128, List.length_map, List.length_cons, List.all_cons, one_row, len_row, ba_beqL, prog_all, List.drop_zero, at_row hx, at_row hy, bin_bneq tyBool4]
        refine hK11 _ ?_; try clear hK11 K11
        conv => enter [5]; simp only [setL_cons, setL_nil, List.set_cons_zero, List.set_cons_succ]
        refine AW.cond rfl (fun hc41 => ?_) (fun hc41 => ?_)
        · skip
          exact absurd hc41 (by simp)
        · skip
          refine AW.skip ?_
          refine hK10 _ _ ?_; try clear hK10 K10
          refine AW.lastl false [8] (by rfl) fun K hK => ?_ -- region 6
          simp only [go_sem, Nat.reduceAdd, Nat.reduceEqDiff, Nat.reduceLeDiff, true_and, ProgM.enc, NodeM.enc, EqM.enc, VarM.enc, enc_one, enc_len, enc_get43, enc_get47, eqc_get81, eqc_get128, List.length_map, List.length_cons, List.all_cons, one_row, len_row, ba_beqL, prog_all, List.drop_zero]
          refine hK _ _ fun env' hw => ?_
          simp only [setL_cons, setL_nil, List.set_cons_zero, List.set_cons_succ] at hw
          refine ⟨i + 1, by omega, by omega, ?_, rfl⟩
          refine hw.trans ?_
          simp [Wk, wrap_succ hi1 hl]
          try omega
      · skip
        have hi1 : i = p.nodes.length := by
          have : ¬ i < p.nodes.length := by simpa using hc26
          omega
        refine AW.exit ?_
        refine hK6 _ _ ?_; try clear hK6 K6
        refine AW.regtdf mixed false 6 (.val (.bool (true))) (by kernel_rfl) (by rfl) ?_ ?_ -- region 9
        · skip
          simp only [go_sem, Nat.reduceAdd, Nat.reduceEqDiff, Nat.reduceLeDiff, true_and, ProgM.enc, NodeM.enc, EqM.enc, VarM.enc, enc_one, enc_len, enc_get43, enc_get47, eqc_get81, eqc_get128, List.length_map, List.length_cons, List.all_cons, one_row, len_row, ba_beqL, prog_all, List.drop_zero, bin_beql tyBool4, beq_self_eq_true]
          refine qC.of en34 (hR34.on _).here (by rfl) ?_
          simp only [go_sem, Nat.reduceAdd, Nat.reduceEqDiff, Nat.reduceLeDiff, true_and, ProgM.enc, NodeM.enc, EqM.enc, VarM.enc, enc_one, enc_len, enc_get43, enc_get47, eqc_get81, eqc_get128, List.length_map, List.length_cons, List.all_cons, one_row, len_row, ba_beqL, prog_all, List.drop_zero, bin_beql tyBool4, beq_self_eq_true]
          refine qC.of en35 ((rpright_calls p hpk).on _).here (by rfl) ?_
          simp only [go_sem, Nat.reduceAdd, Nat.reduceEqDiff, Nat.reduceLeDiff, true_and, ProgM.enc, NodeM.enc, EqM.enc, VarM.enc, enc_one, enc_len, enc_get43, enc_get47, eqc_get81, eqc_get128, List.length_map, List.length_cons, List.all_cons, one_row, len_row, ba_beqL, prog_all, List.drop_zero, bin_beql tyBool4, beq_self_eq_true]
          refine qC.of en33 ((oprog_calls o hok).on _).here (by rfl) ?_
          simp only [go_sem, Nat.reduceAdd, Nat.reduceEqDiff, Nat.reduceLeDiff, true_and, ProgM.enc, NodeM.enc, EqM.enc, VarM.enc, enc_one, enc_len, enc_get43, enc_get47, eqc_get81, eqc_get128, List.length_map, List.length_cons, List.all_cons, one_row, len_row, ba_beqL, prog_all, List.drop_zero, bin_beql tyBool4, beq_self_eq_true]
          refine qC.of en41 (hS41.on _).here (by rfl) ?_
          simp only [go_sem, Nat.reduceAdd, Nat.reduceEqDiff, Nat.reduceLeDiff, true_and, ProgM.enc, NodeM.enc, EqM.enc, VarM.enc, enc_one, enc_len, enc_get43, enc_get47, eqc_get81, eqc_get128, List.length_map, List.length_cons, List.all_cons, one_row, len_row, ba_beqL, prog_all, List.drop_zero, bin_beql tyBool4, beq_self_eq_true]
          refine qC.of en42 ((rpsame_calls p o hpk).on _).here (by rfl) ?_
          simp only [go_sem, Nat.reduceAdd, Nat.reduceEqDiff, Nat.reduceLeDiff, true_and, ProgM.enc, NodeM.enc, EqM.enc, VarM.enc, enc_one, enc_len, enc_get43, enc_get47, eqc_get81, eqc_get128, List.length_map, List.length_cons, List.all_cons, one_row, len_row, ba_beqL, prog_all, List.drop_zero, bin_beql tyBool4, beq_self_eq_true]
          refine qC.of en43 ((name_calls hΓ name (by omega)).on _).here (by rfl) ?_
          simp only [go_sem, Nat.reduceAdd, Nat.reduceEqDiff, Nat.reduceLeDiff, true_and, ProgM.enc, NodeM.enc, EqM.enc, VarM.enc, enc_one, enc_len, enc_get43, enc_get47, eqc_get81, eqc_get128, List.length_map, List.length_cons, List.all_cons, one_row, len_row, ba_beqL, prog_all, List.drop_zero, bin_beql tyBool4, beq_self_eq_true]
          refine qC.of en44 ((rname_calls name (by omega)).on _).here (by rfl) ?_
          simp only [go_sem, Nat.reduceAdd, Nat.reduceEqDiff, Nat.reduceLeDiff, true_and, ProgM.enc, NodeM.enc, EqM.enc, VarM.enc, enc_one, enc_len, enc_get43, enc_get47, eqc_get81, eqc_get128, List.length_map, List.length_cons, List.all_cons, one_row, len_row, ba_beqL, prog_all, List.drop_zero, bin_beql tyBool4, beq_self_eq_true]
          refine qC.of en45 ((word_calls hΓ name).on _).here (by rfl) ?_
          simp only [go_sem, Nat.reduceAdd, Nat.reduceEqDiff, Nat.reduceLeDiff, true_and, ProgM.enc, NodeM.enc, EqM.enc, VarM.enc, enc_one, enc_len, enc_get43, enc_get47, eqc_get81, eqc_get128, List.length_map, List.length_cons, List.all_cons, one_row, len_row, ba_beqL, prog_all, List.drop_zero, bin_beql tyBool4, beq_self_eq_true]
          refine qC.of en46 ((rword_calls name).on _).here (by rfl) ?_
          simp only [go_sem, Nat.reduceAdd, Nat.reduceEqDiff, Nat.reduceLeDiff, true_and, ProgM.enc, NodeM.enc, EqM.enc, VarM.enc, enc_one, enc_len, enc_get43, enc_get47, eqc_get81, eqc_get128, List.length_map, List.length_cons, List.all_cons, one_row, len_row, ba_beqL, prog_all, List.drop_zero, bin_beql tyBool4, beq_self_eq_true]
          refine qC.of en23 ((aawake_calls hΓ).on _).here (by rfl) ?_
          simp only [go_sem, Nat.reduceAdd, Nat.reduceEqDiff, Nat.reduceLeDiff, true_and, ProgM.enc, NodeM.enc, EqM.enc, VarM.enc, enc_one, enc_len, enc_get43, enc_get47, eqc_get81, eqc_get128, List.length_map, List.length_cons, List.all_cons, one_row, len_row, ba_beqL, prog_all, List.drop_zero, bin_beql tyBool4, beq_self_eq_true]
          try simp [upd_at, ProgM.enc, NodeM.enc, EqM.enc, VarM.enc, enc_one, enc_len, enc_get43, enc_get47, eqc_get81, eqc_get128, List.length_map, List.length_cons, List.all_cons, one_row, len_row, ba_beqL, prog_all, List.drop_zero, bin_beql tyBool4, beq_self_eq_true]
        conv => enter [5]; simp only [List.set_cons_zero, List.set_cons_succ]
        refine AW.ret ⟨.inr rfl, _, rfl, by simp, ?_⟩ -- return 2
        exact .keep rfl
end A
end Go.Proofs.Tryd
