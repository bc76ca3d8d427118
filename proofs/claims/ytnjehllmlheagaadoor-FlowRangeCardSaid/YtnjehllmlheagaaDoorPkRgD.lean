import Derived.Test.YtnjehllmlheagaaDoorPkRgC
import Derived.Test.YtnjehllmlheagaaDoorPkRgA
import Derived.Test.YtnjehllmlheagaaDoorRgEvFull
import Derived.Test.YtnjehllmlheagaaDoorRgEvSeqLate
/-! Flow: function 28. -/
namespace Go.Proofs.Tryd
set_option linter.unusedSimpArgs false
set_option linter.unusedVariables false
open Go Go.Proofs.Ev
namespace Fl
variable {Γ : List (Nat × List AV)} {w : AV} {G : List (Nat × List AV)}
set_option maxRecDepth 100000 in
set_option maxHeartbeats 1000000 in
theorem diagram_calls' (hΓ : A.Words (GK w G)) {σ : Sto} {ot on oty oo om i n : Nat} {rest tys ords : List AV} (f : FileM) (hT : TyAt σ ot oty om i n (rowAV 4 f.nl (f.ds.map Dgm.enc)) (.mapo on) (.osl oo 0 n 1 :: rest) tys) (N : List (ByteArray × Nat)) (hon : σ[on]? = some (mapN N)) (hoo : σ[oo]? = some (.cells ords)) (n3 : om ≠ oo) (n4 : om ≠ on) (n5 : oo ≠ ot) (n6 : oo ≠ oty) (hol : ords.length = n) (hob : ∀ m, belL m ords = true) (d : Dgm) (hfd : f.ds[i]? = some d) (hf : f.ds.length ≤ 2000) (hsz : ∀ d ∈ f.ds, SzD d) (hg : GoodD f d) (hN : lookN N d.name = findD f.ds d.name) : ACalls prog (GK w G) 28 [.ref ot 0, i64 ((i : Nat) : Int)] (sm σ om []) (fun v σ' => v = i64 (diaC f i d) ∧ (∃ cs M, σ' = sm (σ.set oo (.cells cs)) om M) ∧ (diaC f i d = 0 → ∃ M o, ord (lmat (hangL d)) d.blocks.length = some o ∧ σ' = sm (σ.set oo (.cells (ords.set i (rowN o)))) om M ∧ walkM f d (startM d []) o = some M ∧ typedB f d o = true)) := by
  refine ACalls.ofT func28 rfl ?_
  simp only [ntmps28, List.length_cons, List.length_nil, Nat.reduceAdd, Nat.reduceSub, List.replicate_succ, List.replicate_zero, List.cons_append, List.nil_append]
  have g1 := fun (M : MapM) (l : Sto) => sm_ne (M := M) hT.t hT.n1 l
  have g2 := fun (M : MapM) (l : Sto) => sm_ne (M := M) hT.ty hT.n2 l
  have g3 := fun (M : MapM) (l : Sto) => sm_at hT.m M l
  have hat := at_osl (o := oty) (k := .i64) hT.lt
  have hdr := dr_at hT.at_
  have hot := hT.ot_lt
  have g4 := fun (M : MapM) (l : Sto) => sm_ne (M := M) hoo n3 l
  have gN := fun (M : MapM) (l : Sto) => sm_ne (M := M) hon n4 l
  have hat2 := at_osl (o := oo) (k := .i64) hT.lt
  have hoil : i < ords.length := by rw [hol]; exact hT.lt
  have hool : oo < σ.length := (List.getElem?_eq_some_iff.1 hoo).1
  have hx : (f.ds.map Dgm.enc)[i]? = some d.enc := by simp [hfd]
  have hdm := List.mem_of_getElem? hfd
  have hz := hsz d hdm
  have hlB : d.blocks.length ≤ maxLen := by rw [maxLen_eq]; have := hz.blocks; omega
  have hsc := sorted2 (Γ := GK w G) d hz hg.inB
  unfold ordV at hsc
  obtain ⟨O, hO⟩ : ∃ z, z = ord (lmat (hangL d)) d.blocks.length := ⟨_, rfl⟩
  rw [← hO] at hsc ⊢
  refine AW.regl false [2, 4] (by rfl) fun K1 hK1 => ?_ -- region 0
  simp only [go_sem, Nat.reduceAdd, Nat.reduceEqDiff, Nat.reduceLeDiff, true_and, List.length_map, len_row, one_row, List.drop_zero, blk_len, dgm_len, port_len, out_len, src_len, file_len, src_get, port_get, out_get, blk_get, dgm_get, file_get, dgm_all, blk_all, src_all, port_all, out_all, file_all, sm_len, sm_geta, sm_geta0, sm_seta, sm_seta0, g1, g2, hat, hdr, g4, sms_geta, sms_geta0]
  refine hK1 _ _ ?_; try clear hK1 K1
  conv => enter [5]; simp only [setL_cons, setL_nil, List.set_cons_zero, List.set_cons_succ]
  refine AW.regl false [5] (by rfl) fun K2 hK2 => ?_ -- region 1
  simp only [go_sem, Nat.reduceAdd, Nat.reduceEqDiff, Nat.reduceLeDiff, true_and, List.length_map, len_row, one_row, List.drop_zero, blk_len, dgm_len, port_len, out_len, src_len, file_len, src_get, port_get, out_get, blk_get, dgm_get, file_get, dgm_all, blk_all, src_all, port_all, out_all, file_all, sm_len, sm_geta, sm_geta0, sm_seta, sm_seta0, g1, g2, hat, hdr, g4, sms_geta, sms_geta0, at_row hx]
  refine hK2 _ _ ?_; try clear hK2 K2
  conv => enter [5]; simp only [setL_cons, setL_nil, List.set_cons_zero, List.set_cons_succ, upd_none, upd_at]
  refine AW.regl false [6] (by rfl) fun K3 hK3 => ?_ -- region 2
  simp only [go_sem, Nat.reduceAdd, Nat.reduceEqDiff, Nat.reduceLeDiff, true_and, List.length_map, len_row, one_row, List.drop_zero, blk_len, dgm_len, port_len, out_len, src_len, file_len, src_get, port_get, out_get, blk_get, dgm_get, file_get, dgm_all, blk_all, src_all, port_all, out_all, file_all, sm_len, sm_geta, sm_geta0, sm_seta, sm_seta0, g1, g2, hat, hdr, g4, sms_geta, sms_geta0]
  refine hK3 _ _ ?_; try clear hK3 K3
  conv => enter [5]; simp only [setL_cons, setL_nil, List.set_cons_zero, List.set_cons_succ]
  refine AW.seq_k fun K4 hK4 => ?_
  refine AW.block ?_
  refine AW.regl false [18] (by rfl) fun K5 hK5 => ?_ -- region 3
  simp only [go_sem, Nat.reduceAdd, Nat.reduceEqDiff, Nat.reduceLeDiff, true_and, List.length_map, len_row, one_row, List.drop_zero, blk_len, dgm_len, port_len, out_len, src_len, file_len, src_get, port_get, out_get, blk_get, dgm_get, file_get, dgm_all, blk_all, src_all, port_all, out_all, file_all, sm_len, sm_geta, sm_geta0, sm_seta, sm_seta0, g1, g2, hat, hdr, g4, sms_geta, sms_geta0]
  refine sC.of en49 (named_calls hΓ f d i hfd hz.ins hz.outs hg.nm N hN (g1 _ _) (gN _ _)).here (by rfl) ?_
  simp only [go_sem, Nat.reduceAdd, Nat.reduceEqDiff, Nat.reduceLeDiff, true_and, List.length_map, len_row, one_row, List.drop_zero, blk_len, dgm_len, port_len, out_len, src_len, file_len, src_get, port_get, out_get, blk_get, dgm_get, file_get, dgm_all, blk_all, src_all, port_all, out_all, file_all, sm_len, sm_geta, sm_geta0, sm_seta, sm_seta0, g1, g2, hat, hdr, g4, sms_geta, sms_geta0]
  refine hK5 _ _ ?_; try clear hK5 K5
  conv => enter [5]; simp only [setL_cons, setL_nil, List.set_cons_zero, List.set_cons_succ]
  refine AW.cond rfl (fun hc18 => ?_) (fun hc18 => ?_)
  · skip
    have hN1 : namesM f i d = false := by simpa using hc18
    refine AW.regl false [4] (by rfl) fun K6 hK6 => ?_ -- region 4
    simp only [go_sem, Nat.reduceAdd, Nat.reduceEqDiff, Nat.reduceLeDiff, true_and, List.length_map, len_row, one_row, List.drop_zero, blk_len, dgm_len, port_len, out_len, src_len, file_len, src_get, port_get, out_get, blk_get, dgm_get, file_get, dgm_all, blk_all, src_all, port_all, out_all, file_all, sm_len, sm_geta, sm_geta0, sm_seta, sm_seta0, g1, g2, hat, hdr, g4, sms_geta, sms_geta0]
    refine hK6 _ _ ?_; try clear hK6 K6
    conv => enter [5]; simp only [setL_cons, setL_nil, List.set_cons_zero, List.set_cons_succ]
    have hdia : diaC f i d = 6 := by
      unfold diaC
      rw [if_pos hN1]
    exact AW.ret ⟨.inr rfl, _, rfl, sm σ om [], _, rfl, rfl, fun _ _ h => .inl h, rfl, by rw [hdia], ⟨ords, [], by rw [set_self hoo]⟩, fun h => by rw [hdia] at h; exact absurd h (by decide)⟩
  · skip
    have hN1 : ¬ namesM f i d = false := by simpa using hc18
    refine AW.regl false [24] (by rfl) fun K7 hK7 => ?_ -- region 5
    simp only [go_sem, Nat.reduceAdd, Nat.reduceEqDiff, Nat.reduceLeDiff, true_and, List.length_map, len_row, one_row, List.drop_zero, blk_len, dgm_len, port_len, out_len, src_len, file_len, src_get, port_get, out_get, blk_get, dgm_get, file_get, dgm_all, blk_all, src_all, port_all, out_all, file_all, sm_len, sm_geta, sm_geta0, sm_seta, sm_seta0, g1, g2, hat, hdr, g4, sms_geta, sms_geta0, Dgm.enc]
    refine hK7 _ _ ?_; try clear hK7 K7
    conv => enter [5]; simp only [setL_cons, setL_nil, List.set_cons_zero, List.set_cons_succ]
    refine AW.cond rfl (fun hc24 => ?_) (fun hc24 => ?_)
    · skip
      have hO1 : d.outs.length = 0 := by simp at hc24; simp [hc24]
      refine AW.regl false [4] (by rfl) fun K8 hK8 => ?_ -- region 6
      simp only [go_sem, Nat.reduceAdd, Nat.reduceEqDiff, Nat.reduceLeDiff, true_and, List.length_map, len_row, one_row, List.drop_zero, blk_len, dgm_len, port_len, out_len, src_len, file_len, src_get, port_get, out_get, blk_get, dgm_get, file_get, dgm_all, blk_all, src_all, port_all, out_all, file_all, sm_len, sm_geta, sm_geta0, sm_seta, sm_seta0, g1, g2, hat, hdr, g4, sms_geta, sms_geta0]
      refine hK8 _ _ ?_; try clear hK8 K8
      conv => enter [5]; simp only [setL_cons, setL_nil, List.set_cons_zero, List.set_cons_succ]
      have hdia : diaC f i d = 10 := by
        unfold diaC
        rw [if_neg hN1, if_pos hO1]
      exact AW.ret ⟨.inr rfl, _, rfl, sm σ om [], _, rfl, rfl, fun _ _ h => .inl h, rfl, by rw [hdia], ⟨ords, [], by rw [set_self hoo]⟩, fun h => by rw [hdia] at h; exact absurd h (by decide)⟩
    · skip
      have hO1 : ¬ d.outs.length = 0 := by simp at hc24; simp [hc24]
      refine AW.regl false [29] (by rfl) fun K9 hK9 => ?_ -- region 7
      simp only [go_sem, Nat.reduceAdd, Nat.reduceEqDiff, Nat.reduceLeDiff, true_and, List.length_map, len_row, one_row, List.drop_zero, blk_len, dgm_len, port_len, out_len, src_len, file_len, src_get, port_get, out_get, blk_get, dgm_get, file_get, dgm_all, blk_all, src_all, port_all, out_all, file_all, sm_len, sm_geta, sm_geta0, sm_seta, sm_seta0, g1, g2, hat, hdr, g4, sms_geta, sms_geta0]
      refine sC.of en50 (ranged_calls f _ d hf (fun e he => (hsz e he).outs) hz.outs hz.blocks (g1 _ _)).here (by rfl) ?_
      simp only [go_sem, Nat.reduceAdd, Nat.reduceEqDiff, Nat.reduceLeDiff, true_and, List.length_map, len_row, one_row, List.drop_zero, blk_len, dgm_len, port_len, out_len, src_len, file_len, src_get, port_get, out_get, blk_get, dgm_get, file_get, dgm_all, blk_all, src_all, port_all, out_all, file_all, sm_len, sm_geta, sm_geta0, sm_seta, sm_seta0, g1, g2, hat, hdr, g4, sms_geta, sms_geta0]
      refine hK9 _ _ ?_; try clear hK9 K9
      conv => enter [5]; simp only [setL_cons, setL_nil, List.set_cons_zero, List.set_cons_succ]
      refine AW.cond rfl (fun hc29 => ?_) (fun hc29 => ?_)
      · skip
        have hR : rngB f d = false := by simpa using hc29
        refine AW.regl false [4] (by rfl) fun K10 hK10 => ?_ -- region 8
        simp only [go_sem, Nat.reduceAdd, Nat.reduceEqDiff, Nat.reduceLeDiff, true_and, List.length_map, len_row, one_row, List.drop_zero, blk_len, dgm_len, port_len, out_len, src_len, file_len, src_get, port_get, out_get, blk_get, dgm_get, file_get, dgm_all, blk_all, src_all, port_all, out_all, file_all, sm_len, sm_geta, sm_geta0, sm_seta, sm_seta0, g1, g2, hat, hdr, g4, sms_geta, sms_geta0]
        refine hK10 _ _ ?_; try clear hK10 K10
        conv => enter [5]; simp only [setL_cons, setL_nil, List.set_cons_zero, List.set_cons_succ]
        have hdia : diaC f i d = 4 := by
          unfold diaC
          rw [if_neg hN1, if_neg hO1, if_pos hR]
        exact AW.ret ⟨.inr rfl, _, rfl, sm σ om [], _, rfl, rfl, fun _ _ h => .inl h, rfl, by rw [hdia], ⟨ords, [], by rw [set_self hoo]⟩, fun h => by rw [hdia] at h; exact absurd h (by decide)⟩
      · skip
        have hR : ¬ rngB f d = false := by simpa using hc29
        refine AW.regl false [34] (by rfl) fun K11 hK11 => ?_ -- region 9
        simp only [go_sem, Nat.reduceAdd, Nat.reduceEqDiff, Nat.reduceLeDiff, true_and, List.length_map, len_row, one_row, List.drop_zero, blk_len, dgm_len, port_len, out_len, src_len, file_len, src_get, port_get, out_get, blk_get, dgm_get, file_get, dgm_all, blk_all, src_all, port_all, out_all, file_all, sm_len, sm_geta, sm_geta0, sm_seta, sm_seta0, g1, g2, hat, hdr, g4, sms_geta, sms_geta0, Dgm.enc]
        refine sC.of en51 (containsFunc51 Blk.enc blk_get d.nlB d.blocks hlB 48 en48 [.ref σ.length 0] (arB f) _ (fun b hb => arity_fn f _ b (fun h7 => (hg.wf b hb).sub h7) ((sm_geta0 σ om _ _).trans rfl) (g1 _ _))).here (by rfl) ?_
        simp only [go_sem, Nat.reduceAdd, Nat.reduceEqDiff, Nat.reduceLeDiff, true_and, List.length_map, len_row, one_row, List.drop_zero, blk_len, dgm_len, port_len, out_len, src_len, file_len, src_get, port_get, out_get, blk_get, dgm_get, file_get, dgm_all, blk_all, src_all, port_all, out_all, file_all, sm_len, sm_geta, sm_geta0, sm_seta, sm_seta0, g1, g2, hat, hdr, g4, sms_geta, sms_geta0, Dgm.enc]
        refine hK11 _ _ ?_; try clear hK11 K11
        conv => enter [5]; simp only [setL_cons, setL_nil, List.set_cons_zero, List.set_cons_succ]
        refine AW.cond rfl (fun hc34 => ?_) (fun hc34 => ?_)
        · skip
          have hA : d.blocks.any (arB f) = true := hc34
          refine AW.regl false [4] (by rfl) fun K12 hK12 => ?_ -- region 10
          simp only [go_sem, Nat.reduceAdd, Nat.reduceEqDiff, Nat.reduceLeDiff, true_and, List.length_map, len_row, one_row, List.drop_zero, blk_len, dgm_len, port_len, out_len, src_len, file_len, src_get, port_get, out_get, blk_get, dgm_get, file_get, dgm_all, blk_all, src_all, port_all, out_all, file_all, sm_len, sm_geta, sm_geta0, sm_seta, sm_seta0, g1, g2, hat, hdr, g4, sms_geta, sms_geta0]
          refine hK12 _ _ ?_; try clear hK12 K12
          conv => enter [5]; simp only [setL_cons, setL_nil, List.set_cons_zero, List.set_cons_succ]
          have hdia : diaC f i d = 8 := by
            unfold diaC
            rw [if_neg hN1, if_neg hO1, if_neg hR, if_pos hA]
          exact AW.ret ⟨.inr rfl, _, rfl, sm σ om [], _, rfl, rfl, fun _ _ h => .inl h, rfl, by rw [hdia], ⟨ords, [], by rw [set_self hoo]⟩, fun h => by rw [hdia] at h; exact absurd h (by decide)⟩
        · skip
          have hA : ¬ d.blocks.any (arB f) = true := ne_true_of_eq_false hc34
          have hAr : ∀ b ∈ d.blocks, b.kind = 7 → (insT f b).length = b.src.length := fun b hb h7 => by
            have := List.any_eq_false.1 hc34 b hb
            simp [arB, h7] at this
            exact this.symm
          refine AW.skip ?_
          refine hK4 _ _ ?_; try clear hK4 K4
          refine AW.regl false [7, 8] (by rfl) fun K13 hK13 => ?_ -- region 11
          simp only [go_sem, Nat.reduceAdd, Nat.reduceEqDiff, Nat.reduceLeDiff, true_and, List.length_map, len_row, one_row, List.drop_zero, blk_len, dgm_len, port_len, out_len, src_len, file_len, src_get, port_get, out_get, blk_get, dgm_get, file_get, dgm_all, blk_all, src_all, port_all, out_all, file_all, sm_len, sm_geta, sm_geta0, sm_seta, sm_seta0, g1, g2, hat, hdr, g4, sms_geta, sms_geta0]
          refine sC.of en52 ((hangs_calls d hz.blocks hz.src).on _).here (by rfl) ?_
          simp only [go_sem, Nat.reduceAdd, Nat.reduceEqDiff, Nat.reduceLeDiff, true_and, List.length_map, len_row, one_row, List.drop_zero, blk_len, dgm_len, port_len, out_len, src_len, file_len, src_get, port_get, out_get, blk_get, dgm_get, file_get, dgm_all, blk_all, src_all, port_all, out_all, file_all, sm_len, sm_geta, sm_geta0, sm_seta, sm_seta0, g1, g2, hat, hdr, g4, sms_geta, sms_geta0]
          refine sC.of en29 (hsc.on _).here (by rfl) ?_
          simp only [go_sem, Nat.reduceAdd, Nat.reduceEqDiff, Nat.reduceLeDiff, true_and, List.length_map, len_row, one_row, List.drop_zero, blk_len, dgm_len, port_len, out_len, src_len, file_len, src_get, port_get, out_get, blk_get, dgm_get, file_get, dgm_all, blk_all, src_all, port_all, out_all, file_all, sm_len, sm_geta, sm_geta0, sm_seta, sm_seta0, g1, g2, hat, hdr, g4, sms_geta, sms_geta0]
          refine hK13 _ _ ?_; try clear hK13 K13
          conv => enter [5]; simp only [setL_cons, setL_nil, List.set_cons_zero, List.set_cons_succ]
          refine AW.seq_k fun K14 hK14 => ?_
          refine AW.regl false [46] (by rfl) fun K15 hK15 => ?_ -- region 12
          simp only [go_sem, Nat.reduceAdd, Nat.reduceEqDiff, Nat.reduceLeDiff, true_and, List.length_map, len_row, one_row, List.drop_zero, blk_len, dgm_len, port_len, out_len, src_len, file_len, src_get, port_get, out_get, blk_get, dgm_get, file_get, dgm_all, blk_all, src_all, port_all, out_all, file_all, sm_len, sm_geta, sm_geta0, sm_seta, sm_seta0, g1, g2, hat, hdr, g4, sms_geta, sms_geta0]
          refine hK15 _ _ ?_; try clear hK15 K15
          conv => enter [5]; simp only [setL_cons, setL_nil, List.set_cons_zero, List.set_cons_succ]
          refine AW.cond rfl (fun hc46 => ?_) (fun hc46 => ?_)
          · skip
            have hOn : O = none := by cases h : O with | none => rfl | some o => rw [h] at hc46; simp at hc46
            refine AW.regl false [4] (by rfl) fun K16 hK16 => ?_ -- region 13
            simp only [go_sem, Nat.reduceAdd, Nat.reduceEqDiff, Nat.reduceLeDiff, true_and, List.length_map, len_row, one_row, List.drop_zero, blk_len, dgm_len, port_len, out_len, src_len, file_len, src_get, port_get, out_get, blk_get, dgm_get, file_get, dgm_all, blk_all, src_all, port_all, out_all, file_all, sm_len, sm_geta, sm_geta0, sm_seta, sm_seta0, g1, g2, hat, hdr, g4, sms_geta, sms_geta0]
            refine hK16 _ _ ?_; try clear hK16 K16
            conv => enter [5]; simp only [setL_cons, setL_nil, List.set_cons_zero, List.set_cons_succ]
            have hdia : diaC f i d = 9 := by
              unfold diaC
              rw [if_neg hN1, if_neg hO1, if_neg hR, if_neg hA, ← hO, hOn]
            exact AW.ret ⟨.inr rfl, _, rfl, sm σ om [], _, rfl, rfl, fun _ _ h => .inl h, rfl, by rw [hdia], ⟨ords, [], by rw [set_self hoo]⟩, fun h => by rw [hdia] at h; exact absurd h (by decide)⟩
          · skip
            obtain ⟨o, hOo⟩ : ∃ o, O = some o := by
              cases h : O with
              | none => rw [h] at hc46; simp at hc46
              | some o => exact ⟨o, rfl⟩
            obtain ⟨hol1, hol2, _, _⟩ := ord_ok (hO.symm.trans hOo)
            rw [show (O.getD []) = o by rw [hOo]; rfl]
            have hszo : i + 1 ≤ ords.length := hoil
            have hspo := spl_gen hoil (rowAV 1 true (o.map natA))
            refine AW.skip ?_
            refine hK14 _ _ ?_; try clear hK14 K14
            refine AW.regl false [] (by rfl) fun K17 hK17 => ?_ -- region 14
            simp only [go_sem, Nat.reduceAdd, Nat.reduceEqDiff, Nat.reduceLeDiff, true_and, List.length_map, len_row, one_row, List.drop_zero, blk_len, dgm_len, port_len, out_len, src_len, file_len, src_get, port_get, out_get, blk_get, dgm_get, file_get, dgm_all, blk_all, src_all, port_all, out_all, file_all, sm_len, sm_geta, sm_geta0, sm_seta, sm_seta0, g1, g2, hat, hdr, g4, sms_geta, sms_geta0, hat2, if_pos hszo, hspo, sm_set_ne [] hool n3]
            refine hK17 _ _ ?_; try clear hK17 K17
            conv => enter [5]; simp only [setL_cons, setL_nil, List.set_cons_zero, List.set_cons_succ, upd_none, upd_at]
            refine AW.seq_k fun K18 hK18 => ?_
            refine AW.regl false [58] (by rfl) fun K19 hK19 => ?_ -- region 15
            simp only [go_sem, Nat.reduceAdd, Nat.reduceEqDiff, Nat.reduceLeDiff, true_and, List.length_map, len_row, one_row, List.drop_zero, blk_len, dgm_len, port_len, out_len, src_len, file_len, src_get, port_get, out_get, blk_get, dgm_get, file_get, dgm_all, blk_all, src_all, port_all, out_all, file_all, sm_len, sm_geta, sm_geta0, sm_seta, sm_seta0, g1, g2, hat, hdr, g4, sms_geta, sms_geta0]
            refine sC.ofR en53 (typed_at (w := w) (G := G) f (hT.set (.cells (ords.set i (rowAV 1 true (o.map natA)))) n5 n6) (List.getElem?_set_self hool) n3 d o (by rw [List.getElem?_set_self hoil]; rfl) (by rw [hol1]; exact hz.blocks) hol2 hz hg.wf hAr (fun e he => (hsz e he).outs) _) (fun v' σ' hR => ?_)
            obtain ⟨M, rfl, rfl, hwM⟩ := hR
            simp only [go_sem, Nat.reduceAdd, Nat.reduceEqDiff, Nat.reduceLeDiff, true_and, List.length_map, len_row, one_row, List.drop_zero, blk_len, dgm_len, port_len, out_len, src_len, file_len, src_get, port_get, out_get, blk_get, dgm_get, file_get, dgm_all, blk_all, src_all, port_all, out_all, file_all, sm_len, sm_geta, sm_geta0, sm_seta, sm_seta0, g1, g2, hat, hdr, g4, sms_geta, sms_geta0]
            refine hK19 _ _ ?_; try clear hK19 K19
            conv => enter [5]; simp only [setL_cons, setL_nil, List.set_cons_zero, List.set_cons_succ]
            refine AW.cond rfl (fun hc58 => ?_) (fun hc58 => ?_)
            · skip
              have hTy : typedB f d o = false := by simpa using hc58
              refine AW.regl false [4] (by rfl) fun K20 hK20 => ?_ -- region 16
              simp only [go_sem, Nat.reduceAdd, Nat.reduceEqDiff, Nat.reduceLeDiff, true_and, List.length_map, len_row, one_row, List.drop_zero, blk_len, dgm_len, port_len, out_len, src_len, file_len, src_get, port_get, out_get, blk_get, dgm_get, file_get, dgm_all, blk_all, src_all, port_all, out_all, file_all, sm_len, sm_geta, sm_geta0, sm_seta, sm_seta0, g1, g2, hat, hdr, g4, sms_geta, sms_geta0]
              refine hK20 _ _ ?_; try clear hK20 K20
              conv => enter [5]; simp only [setL_cons, setL_nil, List.set_cons_zero, List.set_cons_succ]
              have hdia : diaC f i d = 7 := by
                unfold diaC
                rw [if_neg hN1, if_neg hO1, if_neg hR, if_neg hA, ← hO, hOo]
                simp only []
                rw [if_neg (by rw [hTy]; simp)]
              exact AW.ret ⟨.inr rfl, _, rfl, sm (σ.set oo (.cells (ords.set i (rowAV 1 true (o.map natA))))) om M, _, rfl, by rw [sm_len, sm_len, List.length_set], fun j a h => sm_keep2 (belL_set (row_bel nat_bel _ _ _ _) (hob _)) j a h, rfl, by rw [hdia], ⟨_, _, rfl⟩, fun h => by rw [hdia] at h; exact absurd h (by decide)⟩
            · skip
              have hTy : typedB f d o = true := by simpa using hc58
              refine AW.skip ?_
              refine hK18 _ _ ?_; try clear hK18 K18
              refine AW.regl false [4] (by rfl) fun K21 hK21 => ?_ -- region 17
              simp only [go_sem, Nat.reduceAdd, Nat.reduceEqDiff, Nat.reduceLeDiff, true_and, List.length_map, len_row, one_row, List.drop_zero, blk_len, dgm_len, port_len, out_len, src_len, file_len, src_get, port_get, out_get, blk_get, dgm_get, file_get, dgm_all, blk_all, src_all, port_all, out_all, file_all, sm_len, sm_geta, sm_geta0, sm_seta, sm_seta0, g1, g2, hat, hdr, g4, sms_geta, sms_geta0]
              refine hK21 _ _ ?_; try clear hK21 K21
              conv => enter [5]; simp only [setL_cons, setL_nil, List.set_cons_zero, List.set_cons_succ]
              have hdia : diaC f i d = 0 := by
                unfold diaC
                rw [if_neg hN1, if_neg hO1, if_neg hR, if_neg hA, ← hO, hOo]
                simp only []
                rw [if_pos hTy]
              exact AW.ret ⟨.inr rfl, _, rfl, sm (σ.set oo (.cells (ords.set i (rowAV 1 true (o.map natA))))) om M, _, rfl, by rw [sm_len, sm_len, List.length_set], fun j a h => sm_keep2 (belL_set (row_bel nat_bel _ _ _ _) (hob _)) j a h, rfl, by rw [hdia], ⟨_, _, rfl⟩, fun _ => ⟨M, o, hOo, rfl, hwM hTy, hTy⟩⟩
end Fl
end Go.Proofs.Tryd
/-! Flow: all diagrams. -/
namespace Go.Proofs.Tryd
set_option linter.unusedSimpArgs false
set_option linter.unusedVariables false
open Go Go.Proofs.Ev
namespace Fl
variable {Γ : List (Nat × List AV)} {w : AV} {G : List (Nat × List AV)}
def diaCAt (f : FileM) (i : Nat) : Int := match f.ds[i]? with
  | some d => diaC f i d
  | none => 0
theorem diaCAt_eq {f : FileM} {i : Nat} {d : Dgm} (h : f.ds[i]? = some d) : diaCAt f i = diaC f i d := by simp [diaCAt, h]
/-- What the program says of a file. -/
def chkC (f : FileM) : Int := if f.right = true then (match (List.range f.ds.length).find? (fun i => diaCAt f i != 0) with
  | some i => diaCAt f i
  | none => if (ord (lmat (subsL f)) f.ds.length).isSome = true then 0 else 9) else 11
theorem chkC_at {f : FileM} {i : Nat} (hr : f.right = true) (hi : i < f.ds.length) (h : ∀ j, j < i → diaCAt f j = 0) (hn : ¬ diaCAt f i = 0) : chkC f = diaCAt f i := by
  have : (List.range f.ds.length).find? (fun i => diaCAt f i != 0) = some i := by
    rw [List.find?_range_eq_some]
    refine ⟨by simpa using hn, by simpa using hi, fun j hj => ?_⟩
    simp [h j hj]
  rw [chkC, if_pos hr, this]
theorem chkC_end {f : FileM} (hr : f.right = true) (h : ∀ j, j < f.ds.length → diaCAt f j = 0) : chkC f = if (ord (lmat (subsL f)) f.ds.length).isSome = true then 0 else 9 := by
  have : (List.range f.ds.length).find? (fun i => diaCAt f i != 0) = none := by
    rw [List.find?_eq_none]
    intro j hj
    simp [h j (List.mem_range.1 hj)]
  rw [chkC, if_pos hr, this]
/-- The types while the diagrams' maps are made. -/
structure LA (f : FileM) (σ : Sto) (i k : Nat) (N : List (ByteArray × Nat)) (qs : List Nat) (ρ : Sto) : Prop where
  len : σ.length + 9 ≤ ρ.length
  pre : ∀ j, j < σ.length → ρ[j]? = σ[j]?
  fb : ρ[σ.length]? = some (.cells f.enc.cells)
  t : ρ[σ.length + 4]? = some (.cells [rowAV 4 f.nl (f.ds.map Dgm.enc), .mapo (σ.length + 5), .osl (σ.length + 6) 0 f.ds.length 1, .osl (σ.length + 7) 0 f.ds.length 1, .nilsl])
  nm : ρ[σ.length + 5]? = some (mapN N)
  ns : ∀ s, lookN N s = findD (f.ds.take k) s
  ty : ρ[σ.length + 6]? = some (.cells (qs.map AV.mapo ++ List.replicate (f.ds.length - i) (AV.val (.map none))))
  or : ρ[σ.length + 7]? = some (.cells (List.replicate f.ds.length .nilsl))
  sb : ρ[σ.length + 8]? = some (.cells (gx (subsL f) i))
  ql : qs.length = i
  qn : qs.Nodup
  qa : ∀ q ∈ qs, σ.length + 9 ≤ q ∧ ρ[q]? = some (.map [] [])
theorem subsL_len (f : FileM) : (subsL f).length = f.ds.length := by simp [subsL]
theorem get_set {ρ : Sto} {o j : Nat} {x : AO} (h : o ≠ j) : (ρ.set o x)[j]? = ρ[j]? := List.getElem?_set_ne h
theorem LA.name {f : FileM} {σ ρ : Sto} {i : Nat} {N : List (ByteArray × Nat)} {qs : List Nat} (h : LA f σ i i N qs ρ) {d : Dgm} (hd : f.ds[i]? = some d) (hn : lookN N d.name = none) : LA f σ i (i + 1) (N ++ [(d.name, i)]) qs (ρ.set (σ.length + 5) (mapN (N ++ [(d.name, i)]))) := by
  obtain ⟨hi, hd'⟩ := List.getElem?_eq_some_iff.1 hd
  have hlen := h.len
  refine ⟨by simpa using hlen, fun j hj => by rw [get_set (by omega)]; exact h.pre j hj, by rw [get_set (by omega)]; exact h.fb, by rw [get_set (by omega)]; exact h.t, by rw [List.getElem?_set_self (by omega)], fun s => ?_, by rw [get_set (by omega)]; exact h.ty, by rw [get_set (by omega)]; exact h.or, by rw [get_set (by omega)]; exact h.sb, h.ql, h.qn, fun q hq => ⟨(h.qa q hq).1, by rw [get_set (by have := (h.qa q hq).1; omega)]; exact (h.qa q hq).2⟩⟩
  rw [lookN_app, List.take_succ_eq_append_getElem hi, findD_last, h.ns, hd']
  cases findD (f.ds.take i) s with
  | some j => rfl
  | none =>
    simp only [List.length_take, Nat.min_eq_left (Nat.le_of_lt hi)]
    by_cases e : d.name = s
    · rw [if_pos e, if_pos e.symm]
    · rw [if_neg e, if_neg (fun g => e g.symm)]
theorem LA.skip {f : FileM} {σ ρ : Sto} {i : Nat} {N : List (ByteArray × Nat)} {qs : List Nat} (h : LA f σ i i N qs ρ) {d : Dgm} (hd : f.ds[i]? = some d) (hn : ¬ lookN N d.name = none) : LA f σ i (i + 1) N qs ρ := by
  obtain ⟨hi, hd'⟩ := List.getElem?_eq_some_iff.1 hd
  refine ⟨h.len, h.pre, h.fb, h.t, h.nm, fun s => ?_, h.ty, h.or, h.sb, h.ql, h.qn, h.qa⟩
  rw [List.take_succ_eq_append_getElem hi, findD_last, h.ns, hd']
  rw [h.ns] at hn
  cases g : findD (f.ds.take i) s with
  | some j => rfl
  | none =>
    by_cases e : d.name = s
    · rw [e] at hn
      exact absurd g hn
    · rw [if_neg e]
theorem LA.done {f : FileM} {σ ρ : Sto} {i : Nat} {N : List (ByteArray × Nat)} {qs : List Nat} (h : LA f σ i (i + 1) N qs ρ) (hi : i < f.ds.length) {x y : AO} : LA f σ (i + 1) (i + 1) N (qs ++ [ρ.length + 1]) (((ρ.set (σ.length + 6) (.cells ((qs.map AV.mapo ++ List.replicate (f.ds.length - i) (AV.val (.map none))).set i (.mapo (ρ.length + 1))))).set (σ.length + 8) (.cells (gx (subsL f) (i + 1)))) ++ [x, .map [] [], y]) := by
  have hlen := h.len
  have hL : ∀ {j : Nat} {z : AO}, ((ρ.set (σ.length + 6) (.cells ((qs.map AV.mapo ++ List.replicate (f.ds.length - i) (AV.val (.map none))).set i (.mapo (ρ.length + 1))))).set (σ.length + 8) (.cells (gx (subsL f) (i + 1))))[j]? = some z → ((((ρ.set (σ.length + 6) (.cells ((qs.map AV.mapo ++ List.replicate (f.ds.length - i) (AV.val (.map none))).set i (.mapo (ρ.length + 1))))).set (σ.length + 8) (.cells (gx (subsL f) (i + 1)))) ++ [x, .map [] [], y]))[j]? = some z := fun hz => getL hz _
  have hq : ∀ q ∈ qs, q < ρ.length := fun q hq => (List.getElem?_eq_some_iff.1 (h.qa q hq).2).1
  refine ⟨by simp; omega, fun j hj => ?_, hL (by rw [get_set (by omega), get_set (by omega)]; exact h.fb), hL (by rw [get_set (by omega), get_set (by omega)]; exact h.t), hL (by rw [get_set (by omega), get_set (by omega)]; exact h.nm), h.ns, hL ?_, hL (by rw [get_set (by omega), get_set (by omega)]; exact h.or), hL (by rw [List.getElem?_set_self (by simp; omega)]), by simp [h.ql], ?_, fun q hq' => ?_⟩
  · rw [List.getElem?_append_left (by simp; omega), get_set (by omega), get_set (by omega)]
    exact h.pre j hj
  · rw [get_set (by omega), List.getElem?_set_self (by omega)]
    have e1 : (qs.map AV.mapo).length = i := by simp [h.ql]
    have e2 : f.ds.length - i = (f.ds.length - (i + 1)) + 1 := by omega
    rw [List.set_append_right _ _ (by omega), e1, Nat.sub_self, e2, List.replicate_succ, List.set_cons_zero, List.map_append, List.append_assoc]
    rfl
  · rw [List.nodup_append]
    refine ⟨h.qn, by simp, fun a ha b hb => ?_⟩
    rw [List.mem_singleton.1 hb]
    have := hq a ha
    omega
  · rcases List.mem_append.1 hq' with hq' | hq'
    · have := hq q hq'
      have h9 := (h.qa q hq').1
      exact ⟨h9, hL (by rw [get_set (by omega), get_set (by omega)]; exact (h.qa q hq').2)⟩
    · rw [List.mem_singleton.1 hq']
      refine ⟨by omega, ?_⟩
      rw [List.getElem?_append_right (by simp)]
      simp
/-- The types of which so many diagrams are done. -/
structure TS (f : FileM) (σ : Sto) (i : Nat) (N : List (ByteArray × Nat)) (qs : List Nat) (ords : List AV) (ρ : Sto) : Prop where
  len : σ.length + 9 ≤ ρ.length
  pre : ∀ j, j < σ.length → ρ[j]? = σ[j]?
  fb : ρ[σ.length]? = some (.cells f.enc.cells)
  t : ρ[σ.length + 4]? = some (.cells [rowAV 4 f.nl (f.ds.map Dgm.enc), .mapo (σ.length + 5), .osl (σ.length + 6) 0 f.ds.length 1, .osl (σ.length + 7) 0 f.ds.length 1, .nilsl])
  nm : ρ[σ.length + 5]? = some (mapN N)
  ns : ∀ s, lookN N s = findD f.ds s
  ty : ρ[σ.length + 6]? = some (.cells (qs.map AV.mapo))
  or : ρ[σ.length + 7]? = some (.cells ords)
  sb : ρ[σ.length + 8]? = some (.cells ((subsL f).map rowN))
  ol : ords.length = f.ds.length
  ob : ∀ m, belL m ords = true
  ql : qs.length = f.ds.length
  qn : qs.Nodup
  qa : ∀ q ∈ qs, σ.length + 9 ≤ q ∧ q < ρ.length
  new : ∀ j q, i ≤ j → qs[j]? = some q → ρ[q]? = some (mapA [])
  old : ∀ j q d, j < i → qs[j]? = some q → f.ds[j]? = some d → ∃ M o, ρ[q]? = some (mapA M) ∧ ords[j]? = some (rowN o) ∧ ord (lmat (hangL d)) d.blocks.length = some o ∧ walkM f d (startM d []) o = some M ∧ typedB f d o = true
theorem LA.all {f : FileM} {σ ρ : Sto} {N : List (ByteArray × Nat)} {qs : List Nat} (h : LA f σ f.ds.length f.ds.length N qs ρ) : TS f σ 0 N qs (List.replicate f.ds.length .nilsl) ρ := by
  refine ⟨h.len, h.pre, h.fb, h.t, h.nm, fun s => by rw [h.ns, List.take_length], by have := h.ty; rwa [Nat.sub_self, List.replicate_zero, List.append_nil] at this, h.or, ?_, by simp, fun m => ?_, h.ql, h.qn, fun q hq => ⟨(h.qa q hq).1, (List.getElem?_eq_some_iff.1 (h.qa q hq).2).1⟩, fun j q _ hq => (h.qa q (List.mem_of_getElem? hq)).2, fun j q d hj => absurd hj (Nat.not_lt_zero _)⟩
  · have := h.sb
    rw [show f.ds.length = (subsL f).length from (subsL_len f).symm, gx_end] at this
    exact this
  · have := belL_map (n := m) (fun _ : Nat => AV.nilsl) (List.range f.ds.length) fun _ _ => rfl
    rwa [List.map_const', List.length_range] at this
theorem TS.tyAt {f : FileM} {σ ρ : Sto} {i : Nat} {N : List (ByteArray × Nat)} {qs : List Nat} {ords : List AV} (h : TS f σ i N qs ords ρ) {j q : Nat} (hq : qs[j]? = some q) : TyAt ρ (σ.length + 4) (σ.length + 6) q j f.ds.length (rowAV 4 f.nl (f.ds.map Dgm.enc)) (.mapo (σ.length + 5)) [.osl (σ.length + 7) 0 f.ds.length 1, .nilsl] (qs.map AV.mapo) := by
  have h1 := h.qa q (List.mem_of_getElem? hq)
  have h2 := (List.getElem?_eq_some_iff.1 hq).1
  rw [h.ql] at h2
  exact ⟨h.t, h.ty, by rw [List.getElem?_map, hq]; rfl, by simp [h.ql], h2, h1.2, by omega, by omega⟩
theorem TS.next {f : FileM} {σ ρ : Sto} {i : Nat} {N : List (ByteArray × Nat)} {qs : List Nat} {ords : List AV} (h : TS f σ i N qs ords ρ) {q : Nat} {d : Dgm} {M : MapM} {o : List Nat} (hq : qs[i]? = some q) (hd : f.ds[i]? = some d) (h1 : ord (lmat (hangL d)) d.blocks.length = some o) (h2 : walkM f d (startM d []) o = some M) (h3 : typedB f d o = true) : TS f σ (i + 1) N qs (ords.set i (rowN o)) (sm (ρ.set (σ.length + 7) (.cells (ords.set i (rowN o)))) q M) := by
  have hlen := h.len
  have hqa := h.qa q (List.mem_of_getElem? hq)
  have hi : i < ords.length := by rw [h.ol]; exact (List.getElem?_eq_some_iff.1 hd).1
  have keep : ∀ (j : Nat), j ≠ q → j ≠ σ.length + 7 → (sm (ρ.set (σ.length + 7) (.cells (ords.set i (rowN o)))) q M)[j]? = ρ[j]? := fun j a b => by
    rw [sm, get_set (fun e => a e.symm), get_set (fun e => b e.symm)]
  have hne : ∀ j q', j ≠ i → qs[j]? = some q' → q' ≠ q := fun j q' hj hq' e => by
    subst e
    obtain ⟨a1, a2⟩ := List.getElem?_eq_some_iff.1 hq
    obtain ⟨b1, b2⟩ := List.getElem?_eq_some_iff.1 hq'
    have := (List.pairwise_iff_getElem.1 h.qn)
    rcases Nat.lt_or_gt_of_ne hj with g | g
    · exact this j i b1 a1 g (b2.trans a2.symm)
    · exact this i j a1 b1 g (a2.trans b2.symm)
  refine ⟨by rw [sm_len, List.length_set]; exact hlen, fun j hj => by rw [keep j (by omega) (by omega)]; exact h.pre j hj, by rw [keep _ (by omega) (by omega)]; exact h.fb, by rw [keep _ (by omega) (by omega)]; exact h.t, by rw [keep _ (by omega) (by omega)]; exact h.nm, h.ns, by rw [keep _ (by omega) (by omega)]; exact h.ty, ?_, by rw [keep _ (by omega) (by omega)]; exact h.sb, by rw [List.length_set]; exact h.ol, fun m => belL_set (rowN_bel _ _) (h.ob m), h.ql, h.qn, fun q hq => by rw [sm_len, List.length_set]; exact h.qa q hq, fun j q' hj hq' => ?_, fun j q' d' hj hq' hd' => ?_⟩
  · rw [sm, get_set (by omega), List.getElem?_set_self (by omega)]
  · have := h.qa q' (List.mem_of_getElem? hq')
    rw [keep q' (hne j q' (by omega) hq') (by omega)]
    exact h.new j q' (by omega) hq'
  · by_cases e : j = i
    · subst e
      rw [hq] at hq'
      rw [hd] at hd'
      cases hq'
      cases hd'
      exact ⟨M, o, by rw [sm, List.getElem?_set_self (by rw [List.length_set]; exact hqa.2)], by rw [List.getElem?_set_self hi], h1, h2, h3⟩
    · have := h.qa q' (List.mem_of_getElem? hq')
      obtain ⟨M', o', g1, g2, g3⟩ := h.old j q' d' (by omega) hq' hd'
      exact ⟨M', o', by rw [keep q' (hne j q' e hq') (by omega)]; exact g1, by rw [List.getElem?_set_ne (fun g => e g.symm)]; exact g2, g3⟩
theorem freeze_end {F : Fr} {P : Program} {Γ : List (Nat × List AV)} (o len sz : Nat) (es : List AV) {c : Code} {env : Env} {σ : Sto} {Q : Exit → Env → Sto → Prop} {cs : List AV} (ho : σ[o]? = some (.cells cs)) (hcs : es.flatMap AV.cells = cs) (hlen : es.length = len) (hsz : ∀ e ∈ es, e.cells.length = sz)
    (h : AW F P Γ c (subL o len sz es env) (σ.set o .dead) Q) : AW F P Γ c env σ Q := by
  refine AW.freeze σ.length o len sz es ho hcs hlen hsz ?_
  rw [subFrom, List.take_of_length_le (by simp), List.drop_of_length_le (by simp), List.map_nil, List.append_nil]
  exact h
/-- The types when all is well. -/
structure Fin (f : FileM) (b : Nat) (ρ : Sto) : Prop where
  ex : ∃ (N : List (ByteArray × Nat)) (qs : List Nat) (ords : List AV) (dg : List Nat), ρ[b + 4]? = some (.cells [rowAV 4 f.nl (f.ds.map Dgm.enc), .mapo (b + 5), .osl (b + 6) 0 f.ds.length 1, .osl (b + 7) 0 f.ds.length 1, rowN dg]) ∧ ρ[b + 5]? = some (mapN N) ∧ (∀ s, lookN N s = findD f.ds s) ∧ ρ[b + 6]? = some (.cells (qs.map AV.mapo)) ∧ qs.length = f.ds.length ∧ ρ[b + 7]? = some (.cells ords) ∧ ords.length = f.ds.length ∧ ord (lmat (subsL f)) f.ds.length = some dg ∧ ∀ (j q : Nat) (d : Dgm), qs[j]? = some q → f.ds[j]? = some d → ∃ M o, ρ[q]? = some (mapA M) ∧ ords[j]? = some (rowN o) ∧ ord (lmat (hangL d)) d.blocks.length = some o ∧ walkM f d (startM d []) o = some M ∧ typedB f d o = true
theorem LA.start (f : FileM) (σ : Sto) : LA f σ 0 0 [] [] (σ ++ [.cells f.enc.cells, .dead, .dead, .dead, .cells [rowAV 4 f.nl (f.ds.map Dgm.enc), .mapo (σ.length + 5), .osl (σ.length + 6) 0 f.ds.length 1, .osl (σ.length + 7) 0 f.ds.length 1, .nilsl], .map [] [], .cells (List.replicate f.ds.length (.val (.map none))), .cells (List.replicate f.ds.length .nilsl), .cells (List.replicate f.ds.length .nilsl)]) := by
  refine ⟨by simp, fun j hj => List.getElem?_append_left hj, by simp, by simp, by simp [mapN], fun s => rfl, by simp, by simp, ?_, rfl, List.nodup_nil, fun q h => by cases h⟩
  rw [gx_zero, subsL_len]
  simp
theorem set_geta (ρ : Sto) (o : Nat) (x : AO) (l : Sto) (k : Nat) : (ρ.set o x ++ l)[ρ.length + k]? = l[k]? := by
  have := app_get (ρ.set o x) l k
  rwa [List.length_set] at this
theorem set_geta0 (ρ : Sto) (o : Nat) (x : AO) (l : Sto) : (ρ.set o x ++ l)[ρ.length]? = l[0]? := set_geta ρ o x l 0
theorem set_seta (ρ : Sto) (o : Nat) (x : AO) (l : Sto) (k : Nat) (v : AO) : (ρ.set o x ++ l).set (ρ.length + k) v = ρ.set o x ++ l.set k v := by
  have := app_set (ρ.set o x) l k v
  rwa [List.length_set] at this
theorem set_bela {ρ : Sto} {o m : Nat} {x x' : AO} {l l' : Sto} (hx : x'.bel m = true) (h : ∀ a ∈ l', a.bel m = true) (j : Nat) (a : AO) (hj : (ρ.set o x' ++ l')[j]? = some a) : (ρ.set o x ++ l)[j]? = some a ∨ a.bel m = true := by
  by_cases hl : j < ρ.length
  · rw [List.getElem?_append_left (by simpa using hl)] at hj ⊢
    rw [List.getElem?_set] at hj ⊢
    split at hj
    · rename_i e
      split at hj
      · cases hj
        exact .inr hx
      · cases hj
    · rename_i e
      rw [if_neg e]
      exact .inl hj
  · rw [List.getElem?_append_right (by simp; omega)] at hj
    exact .inr (h a (List.mem_of_getElem? hj))
theorem subsB_snoc {l : List Blk} {j : Nat} (hj : j < l.length) : subsB (l.take (j + 1)) = subsB (l.take j) ++ (if ((l[j]).kind == 7) = true then [(l[j]).sub.toNat] else []) := by
  unfold subsB
  rw [List.take_succ_eq_append_getElem hj, List.filter_append, List.map_append]
  congr 1
  simp only [List.filter_cons, List.filter_nil]
  split <;> simp
theorem subsL_ok {f : FileM} (hs : ∀ d ∈ f.ds, subOk f d) : ∀ x ∈ subsL f, ∀ k ∈ x, k < (subsL f).length := by
  intro x hx k hk
  obtain ⟨d, hd, rfl⟩ := List.mem_map.1 hx
  obtain ⟨b, hb, rfl⟩ := List.mem_map.1 hk
  obtain ⟨h1, h2⟩ := List.mem_filter.1 hb
  have := hs d hd b h1 (by simpa using h2)
  rw [subsL_len]
  omega
theorem subsL_le {f : FileM} (hz : ∀ d ∈ f.ds, SzD d) : ∀ x ∈ subsL f, x.length ≤ maxLen := by
  intro x hx
  obtain ⟨d, hd, rfl⟩ := List.mem_map.1 hx
  have h1 : (subsB d.blocks).length ≤ d.blocks.length := by simp only [subsB, List.length_map]; exact List.length_filter_le _ _
  have := (hz d hd).blocks
  rw [maxLen_eq]
  omega
theorem sorted3 {f : FileM} (hf : f.ds.length ≤ 2000) (hs : ∀ d ∈ f.ds, subOk f d) (hz : ∀ d ∈ f.ds, SzD d) : APure prog Γ 29 [.sl 1 ((subsL f).map rowN)] (ordV (ord (lmat (subsL f)) f.ds.length)) := by
  have := sorted_calls (Γ := Γ) (subsL f) false (by rw [subsL_len]; exact hf) (subsL_ok hs) (subsL_le hz)
  rwa [row_false, subsL_len] at this
theorem rowN_flat (l : List (List Nat)) : (l.map rowN).flatMap AV.cells = l.map rowN := flat_map rowN rowN_cells l
end Fl
end Go.Proofs.Tryd
/-! Flow: what the program says is what the document says, in plain terms. -/
namespace Go.Proofs.Tryd
set_option linter.unusedSimpArgs false
set_option linter.unusedVariables false
open Go Go.Proofs.Ev
namespace Fl
-- a source's type
section
variable {f : FileM} {d : Dgm} {o : List Nat}
/-- A source's type, for good. -/
def T (f : FileM) (d : Dgm) (s : Src) : Int := typ f d (dN d) s
end
end Fl
end Go.Proofs.Tryd
/-! Flow: the maps hold the sources' types; a diagram is typed as the document says. -/
namespace Go.Proofs.Tryd
set_option linter.unusedSimpArgs false
set_option linter.unusedVariables false
open Go Go.Proofs.Ev
namespace Fl
section
variable {f : FileM} {d : Dgm} {o : List Nat}
/-- The sources whose types are noted when so many blocks are done. -/
def known (f : FileM) (d : Dgm) (p : List Nat) (s : Src) : Prop := f.source d s = true ∧ (s.block = -1 ∨ ∃ (k : Nat) (b : Blk), s.block = (k : Int) ∧ d.blocks[k]? = some b ∧ (b.kind = 4 ∨ k ∈ p))
def Inv (f : FileM) (d : Dgm) (p : List Nat) (M : MapM) : Prop := ∀ s : Src, (known f d p s → look M (s.block, s.port) = some (T f d s)) ∧ (¬ known f d p s → look M (s.block, s.port) = none)
end
end Fl
end Go.Proofs.Tryd
/-! What the document says of files. -/
namespace Go.Proofs.Tryd
set_option linter.unusedSimpArgs false
set_option linter.unusedVariables false
open Go Go.Proofs.Ev
variable {Γ : List (Nat × List AV)}

end Go.Proofs.Tryd
/-! Flow: right files are good; what is the same of a file and of the program's own one. -/
namespace Go.Proofs.Tryd
set_option linter.unusedSimpArgs false
set_option linter.unusedVariables false
open Go Go.Proofs.Ev
namespace Fl
theorem right_dgm {f : FileM} (h : f.right = true) {d : Dgm} (hd : d ∈ f.ds) : f.diagram d = true := by
  simp only [FileM.right, Bool.and_eq_true, Bool.not_eq_true', List.any_eq_false] at h
  simpa using h.2 d hd
theorem block_wf {f : FileM} {d : Dgm} {b : Blk} (h : f.block d b = true) : WfB f b ∧ 0 ≤ b.op ∧ ∀ s ∈ b.src, f.source d s = true := by
  obtain ⟨kind, op, sub, bn, bx, by', nl, src⟩ := b
  simp only [FileM.block] at h
  by_cases hk : (decide (kind < 0) || decide (kind > 7)) = true
  · rw [if_pos hk] at h
    cases h
  · rw [if_neg hk] at h
    have hk2 : ¬ kind < 0 ∧ ¬ kind > 7 := by simpa using hk
    have hk3 : kind = 0 ∨ kind = 1 ∨ kind = 2 ∨ kind = 3 ∨ kind = 4 ∨ kind = 5 ∨ kind = 6 ∨ kind = 7 := by omega
    have hsrc : ∀ A : Bool, (A && !(src.any fun s => !f.source d s)) = true → A = true ∧ ∀ s ∈ src, f.source d s = true := fun A hA => by
      simp only [Bool.and_eq_true, Bool.not_eq_true', List.any_eq_false] at hA
      exact ⟨hA.1, fun s hs => by simpa using hA.2 s hs⟩
    rcases hk3 with rfl | rfl | rfl | rfl | rfl | rfl | rfl | rfl
    all_goals
      change (_ && !(src.any fun s => !f.source d s)) = true at h
      obtain ⟨h1, h2⟩ := hsrc _ h
      simp at h1
      refine ⟨⟨by simp, by simp, by simp <;> omega, by simp <;> omega, by simp <;> omega, by simp <;> omega, by simp <;> omega⟩, by simp <;> omega, h2⟩
theorem good_of {f : FileM} (h : f.right = true) {d : Dgm} (hd : d ∈ f.ds) : GoodD f d := by
  have hx := right_dgm h hd
  simp only [FileM.diagram, Bool.and_eq_true, Bool.not_eq_true', List.any_eq_false, decide_eq_true_eq] at hx
  obtain ⟨⟨⟨⟨⟨⟨h1, h2⟩, h3⟩, h4⟩, h5⟩, h6⟩, h7⟩ := hx
  have hp : ∀ p : PortM, p.right = true → p.name.size ≤ 65535 ∧ (p.type = 0 ∨ p.type = 1) := fun p hp => by
    simp only [PortM.right, Bool.and_eq_true, decide_eq_true_eq] at hp
    omega
  have h5' : ∀ p ∈ d.ins, p.right = true := fun p hp => by simpa using h5 p hp
  have h6' : ∀ o ∈ d.outs, o.port.right = true ∧ f.source d o.src = true := fun o ho => by simpa using h6 o ho
  have h7' : ∀ b ∈ d.blocks, f.block d b = true := fun b hb => by simpa using h7 b hb
  refine ⟨⟨by omega, fun s hs => ?_⟩, fun b hb => (block_wf (h7' b hb)).1, fun b hb => (block_wf (h7' b hb)).2.2, fun o ho => (h6' o ho).2, fun p hp' => (hp p (h5' p hp')).2, fun o ho => (hp o.port (h6' o ho).1).2⟩
  rcases List.mem_append.1 hs with hs | hs
  · obtain ⟨p, hp', rfl⟩ := List.mem_map.1 hs
    exact (hp p (h5' p hp')).1
  · obtain ⟨o, ho, rfl⟩ := List.mem_map.1 hs
    exact (hp o.port (h6' o ho).1).1
-- the program's own file
end Fl
end Go.Proofs.Tryd
/-! Flow: function 7. -/
namespace Go.Proofs.Tryd
set_option linter.unusedSimpArgs false
set_option linter.unusedVariables false
open Go Go.Proofs.Ev
namespace Fl
variable {Γ : List (Nat × List AV)} {w : AV} {G : List (Nat × List AV)}
set_option maxRecDepth 100000 in
set_option maxHeartbeats 4000000 in
theorem check_calls (hΓ : A.Words (GK w G)) (f : FileM) (hok : f.ok) (hf : f.ds.length ≤ 2000) (hsz : ∀ d ∈ f.ds, SzD d) (hgd : f.right = true → ∀ d ∈ f.ds, GoodD f d) (σ : Sto) : ACalls prog (GK w G) 7 [f.enc] σ (fun v σ' => (σ.length ≤ σ'.length ∧ ∀ j, j < σ.length → σ'[j]? = σ[j]?) ∧ ((¬ chkC f = 0 ∧ v = .tup [.val (.pointer none), i64 (chkC f)]) ∨ (chkC f = 0 ∧ v = .tup [.ref (σ.length + 4) 0, i64 0] ∧ Fin f σ.length σ'))) := by
  refine ACalls.of func7 rfl ?_
  simp only [ntmps7, List.length_cons, List.length_nil, Nat.reduceAdd, Nat.reduceSub, List.replicate_succ, List.replicate_zero, List.cons_append, List.nil_append]
  have hlF : f.ds.length ≤ maxLen := by rw [maxLen_eq]; omega
  refine AW.regl false [1, 2, 3] (by rfl) fun K1 hK1 => ?_ -- region 0
  simp only [go_sem, Nat.reduceAdd, Nat.reduceEqDiff, Nat.reduceLeDiff, true_and, List.length_map, len_row, one_row, List.drop_zero, blk_len, dgm_len, port_len, out_len, src_len, file_len, src_get, port_get, out_get, blk_get, dgm_get, file_get, dgm_all, blk_all, src_all, port_all, out_all, file_all, set_geta, set_geta0, set_seta]
  refine hK1 _ _ ?_; try clear hK1 K1
  conv => enter [5]; simp only [setL_cons, setL_nil, List.set_cons_zero, List.set_cons_succ]
  refine AW.seq_k fun K2 hK2 => ?_
  refine AW.regl false [19] (by rfl) fun K3 hK3 => ?_ -- region 1
  simp only [go_sem, Nat.reduceAdd, Nat.reduceEqDiff, Nat.reduceLeDiff, true_and, List.length_map, len_row, one_row, List.drop_zero, blk_len, dgm_len, port_len, out_len, src_len, file_len, src_get, port_get, out_get, blk_get, dgm_get, file_get, dgm_all, blk_all, src_all, port_all, out_all, file_all, set_geta, set_geta0, set_seta]
  refine sC.of en27 ((right_calls f hok).on _).here (by rfl) ?_
  simp only [go_sem, Nat.reduceAdd, Nat.reduceEqDiff, Nat.reduceLeDiff, true_and, List.length_map, len_row, one_row, List.drop_zero, blk_len, dgm_len, port_len, out_len, src_len, file_len, src_get, port_get, out_get, blk_get, dgm_get, file_get, dgm_all, blk_all, src_all, port_all, out_all, file_all, set_geta, set_geta0, set_seta]
  refine hK3 _ _ ?_; try clear hK3 K3
  conv => enter [5]; simp only [setL_cons, setL_nil, List.set_cons_zero, List.set_cons_succ]
  refine AW.cond rfl (fun hc19 => ?_) (fun hc19 => ?_)
  · skip
    have hr : ¬ f.right = true := by simpa using hc19
    have hch : chkC f = 11 := by rw [chkC, if_neg hr]
    refine AW.regl false [2, 3] (by rfl) fun K4 hK4 => ?_ -- region 2
    simp only [go_sem, Nat.reduceAdd, Nat.reduceEqDiff, Nat.reduceLeDiff, true_and, List.length_map, len_row, one_row, List.drop_zero, blk_len, dgm_len, port_len, out_len, src_len, file_len, src_get, port_get, out_get, blk_get, dgm_get, file_get, dgm_all, blk_all, src_all, port_all, out_all, file_all, set_geta, set_geta0, set_seta]
    refine hK4 _ _ ?_; try clear hK4 K4
    conv => enter [5]; simp only [setL_cons, setL_nil, List.set_cons_zero, List.set_cons_succ]
    exact AW.ret ⟨.inr rfl, _, rfl, ⟨by simp, fun j hj => List.getElem?_append_left hj⟩, .inl ⟨by rw [hch]; decide, by rw [hch]; rfl⟩⟩
  · skip
    have hr : f.right = true := by simpa using hc19
    have hgd := hgd hr
    refine AW.skip ?_
    refine hK2 _ _ ?_; try clear hK2 K2
    refine AW.regl false [4] (by rfl) fun K5 hK5 => ?_ -- region 3
    simp only [go_sem, Nat.reduceAdd, Nat.reduceEqDiff, Nat.reduceLeDiff, true_and, List.length_map, len_row, one_row, List.drop_zero, blk_len, dgm_len, port_len, out_len, src_len, file_len, src_get, port_get, out_get, blk_get, dgm_get, file_get, dgm_all, blk_all, src_all, port_all, out_all, file_all, set_geta, set_geta0, set_seta, FileM.enc]
    refine hK5 _ _ ?_; try clear hK5 K5
    conv => enter [5]; simp only [setL_cons, setL_nil, List.set_cons_zero, List.set_cons_succ]
    refine AW.r4 (f := f) mixed hf rfl rfl rfl (app_get0 _ _) (fun j a b => by
      have : j = 23 ∨ j = 24 ∨ j = 25 ∨ j = 26 ∨ j = 27 ∨ j = 28 ∨ j = 29 ∨ j = 30 := by omega
      rcases this with rfl | rfl | rfl | rfl | rfl | rfl | rfl | rfl <;> rfl) (by simp [belL, AV.bel, FileM.enc, row_bel dgm_bel, ofConst, ofCell]) (by rfl) (by rfl) (by rfl) ?_ -- region 4
    conv => enter [5]; simp only [List.set_cons_zero, List.set_cons_succ]
    unfold r4sto
    simp only [List.append_assoc, List.cons_append, List.nil_append, List.length_append, List.length_cons, List.length_nil, Nat.add_assoc, Nat.reduceAdd]
    refine AW.regl false [6] (by rfl) fun K7 hK7 => ?_ -- region 5
    simp only [go_sem, Nat.reduceAdd, Nat.reduceEqDiff, Nat.reduceLeDiff, true_and, List.length_map, len_row, one_row, List.drop_zero, blk_len, dgm_len, port_len, out_len, src_len, file_len, src_get, port_get, out_get, blk_get, dgm_get, file_get, dgm_all, blk_all, src_all, port_all, out_all, file_all, set_geta, set_geta0, set_seta, mkN hf]
    refine hK7 _ _ ?_; try clear hK7 K7
    conv => enter [5]; simp only [setL_cons, setL_nil, List.set_cons_zero, List.set_cons_succ]
    refine AW.seq_k fun K8 hK8 => ?_
    refine AW.regl false [34, 35, 36] (by rfl) fun K9 hK9 => ?_ -- region 6
    simp only [go_sem, Nat.reduceAdd, Nat.reduceEqDiff, Nat.reduceLeDiff, true_and, List.length_map, len_row, one_row, List.drop_zero, blk_len, dgm_len, port_len, out_len, src_len, file_len, src_get, port_get, out_get, blk_get, dgm_get, file_get, dgm_all, blk_all, src_all, port_all, out_all, file_all, set_geta, set_geta0, set_seta, FileM.enc]
    refine hK9 _ _ ?_; try clear hK9 K9
    conv => enter [5]; simp only [setL_cons, setL_nil, List.set_cons_zero, List.set_cons_succ]
    refine AW.block ?_
    refine AW.loop_wk (α := Nat × Sto) (fun z => [.any, (.ref σ.length 0), .any, .any, .any, (.ref (σ.length + 4) 0), (.osl (σ.length + 8) 0 f.ds.length 1), .any, .any, .any, .any, .any, .any, .any, .any, .any, .any, .any, .any, .any, .any, .any, .any, .any, .any, .any, .any, .any, .any, .any, .any, .any, .any, .any, (rowAV 4 f.nl (f.ds.map Dgm.enc)), (.val (.int .i64 ((f.ds.length : Nat) : Int))), (i64 ((z.1 : Nat) : Int)), .any, .any, .any, .any, .any, .any, .any, .any, .any, .any, .any, .any, .any, .any, .any, .any, .any, .any, .any, .any, .any, .any, .any, .any, .any, .any, .any, .any, .any, .any, .any, .any, .any, .any, .any, .any, .any, .any, .any, .any, .any, .any, .any, .any, .any, .any, .any, .any, .any, .any, .any, .any, .any, .any, .any, .any, .any, .any, .any, .any, .any, .any, .any, .any, .any, .any, .any, .any, .any, .any, .any, .any, .any, .any, .any, .any, .any, .any]) (fun z => z.2) (fun z => f.ds.length - z.1) (fun z => z.1 ≤ f.ds.length ∧ ∃ N qs, LA f σ z.1 z.1 N qs z.2) (0, σ ++ [.cells f.enc.cells, .dead, .dead, .dead, .cells [rowAV 4 f.nl (f.ds.map Dgm.enc), .mapo (σ.length + 5), .osl (σ.length + 6) 0 f.ds.length 1, .osl (σ.length + 7) 0 f.ds.length 1, .nilsl], .map [] [], .cells (List.replicate f.ds.length (.val (.map none))), .cells (List.replicate f.ds.length .nilsl), .cells (List.replicate f.ds.length .nilsl)]) ?_ ?_
    · exact ⟨⟨Nat.zero_le _, [], [], LA.start f σ⟩, by simp [Wk], rfl⟩
    · rintro ⟨i, ρ⟩ ⟨hi, N, qs, hA⟩
      simp only at hi hA
      refine AW.regl false [37] (by rfl) fun K10 hK10 => ?_ -- region 7
      simp only [go_sem, Nat.reduceAdd, Nat.reduceEqDiff, Nat.reduceLeDiff, true_and, List.length_map, len_row, one_row, List.drop_zero, blk_len, dgm_len, port_len, out_len, src_len, file_len, src_get, port_get, out_get, blk_get, dgm_get, file_get, dgm_all, blk_all, src_all, port_all, out_all, file_all, set_geta, set_geta0, set_seta]
      refine hK10 _ _ ?_; try clear hK10 K10
      conv => enter [5]; simp only [setL_cons, setL_nil, List.set_cons_zero, List.set_cons_succ]
      refine AW.seq_k fun K11 hK11 => ?_
      refine AW.cond rfl (fun hc37 => ?_) (fun hc37 => ?_)
      · skip
        have hi1 : i < f.ds.length := by simpa using hc37
        obtain ⟨d, hd⟩ : ∃ z, z = f.ds[i] := ⟨_, rfl⟩
        have hfd : f.ds[i]? = some d := by rw [hd]; exact List.getElem?_eq_getElem hi1
        have hx : (f.ds.map Dgm.enc)[i]? = some d.enc := by simp [hfd]
        have hdm := List.mem_of_getElem? hfd
        have hdz := hsz d hdm
        have hlB : d.blocks.length ≤ maxLen := by rw [maxLen_eq]; have := hdz.blocks; omega
        have hlen := hA.len
        have gT := fun l => getL hA.t l
        have gN := fun l => getL hA.nm l
        have hlkN := fun l => lkNt (gN l) d.name
        have hNl : σ.length + 5 < ρ.length := by omega
        refine AW.skip ?_
        refine hK11 _ _ ?_; try clear hK11 K11
        refine AW.seq_k fun K12 hK12 => ?_
        refine AW.block ?_
        refine AW.regl false [8, 7] (by rfl) fun K13 hK13 => ?_ -- region 8
        simp only [go_sem, Nat.reduceAdd, Nat.reduceEqDiff, Nat.reduceLeDiff, true_and, List.length_map, len_row, one_row, List.drop_zero, blk_len, dgm_len, port_len, out_len, src_len, file_len, src_get, port_get, out_get, blk_get, dgm_get, file_get, dgm_all, blk_all, src_all, port_all, out_all, file_all, set_geta, set_geta0, set_seta, at_row hx]
        refine hK13 _ _ ?_; try clear hK13 K13
        conv => enter [5]; simp only [setL_cons, setL_nil, List.set_cons_zero, List.set_cons_succ, upd_none, upd_at]
        refine AW.seq_k fun K14 hK14 => ?_
        refine AW.regdl mixed false [10] (by kernel_rfl) (by rfl) fun K15 hK15 => ?_ -- region 9
        simp only [go_sem, Nat.reduceAdd, Nat.reduceEqDiff, Nat.reduceLeDiff, true_and, List.length_map, len_row, one_row, List.drop_zero, blk_len, dgm_len, port_len, out_len, src_len, file_len, src_get, port_get, out_get, blk_get, dgm_get, file_get, dgm_all, blk_all, src_all, port_all, out_all, file_all, set_geta, set_geta0, set_seta, Dgm.enc, gT, hlkN, aExtract]
        refine hK15 _ ?_; try clear hK15 K15
        conv => enter [5]; simp only [setL_cons, setL_nil, List.set_cons_zero, List.set_cons_succ]
        refine AW.regl false [52] (by rfl) fun K16 hK16 => ?_ -- region 10
        simp only [go_sem, Nat.reduceAdd, Nat.reduceEqDiff, Nat.reduceLeDiff, true_and, List.length_map, len_row, one_row, List.drop_zero, blk_len, dgm_len, port_len, out_len, src_len, file_len, src_get, port_get, out_get, blk_get, dgm_get, file_get, dgm_all, blk_all, src_all, port_all, out_all, file_all, set_geta, set_geta0, set_seta]
        refine hK16 _ _ ?_; try clear hK16 K16
        conv => enter [5]; simp only [setL_cons, setL_nil, List.set_cons_zero, List.set_cons_succ]
        refine AW.cond rfl (fun hc52 => ?_) (fun hc52 => ?_)
        · skip
          have hnn : lookN N d.name = none := by simpa using hc52
          have hup := fun l => upN (gN l) hnn i
          simp only [List.set_append_left _ _ hNl] at hup
          refine AW.lastml mixed false [] 7 (by kernel_rfl) (by kernel_rfl) (by rfl) fun K hK => ?_ -- region 11
          simp only [go_sem, Nat.reduceAdd, Nat.reduceEqDiff, Nat.reduceLeDiff, true_and, List.length_map, len_row, one_row, List.drop_zero, blk_len, dgm_len, port_len, out_len, src_len, file_len, src_get, port_get, out_get, blk_get, dgm_get, file_get, dgm_all, blk_all, src_all, port_all, out_all, file_all, set_geta, set_geta0, set_seta, Dgm.enc, gT, hup]
          refine hK _ _ fun env' hw => ?_
          simp only [setL_cons, setL_nil, List.set_cons_zero, List.set_cons_succ, upd_none, upd_at] at hw
          refine hK14 _ _ (AW.weaken hw ?_); clear hw; try clear hK14 K14
          have hA := hA.name hfd hnn
          rw [show ρ.length = (ρ.set (σ.length + 5) (mapN (N ++ [(d.name, i)]))).length by simp]
          generalize ρ.set (σ.length + 5) (mapN (N ++ [(d.name, i)])) = ρ at hA ⊢
          generalize N ++ [(d.name, i)] = N at hA
          have hlen := hA.len
          have gT := fun l => getL hA.t l
          have gY := fun l => getL hA.ty l
          have hYl : σ.length + 6 < ρ.length := by omega
          have htl : i < (qs.map AV.mapo ++ List.replicate (f.ds.length - i) (AV.val (.map none))).length := by simp [hA.ql]; omega
          have hatY := at_osl (o := σ.length + 6) (k := .i64) hi1
          have hspY := spl_gen htl (.mapo (ρ.length + 1))
          have hszY : i + 1 ≤ qs.length + (List.replicate (f.ds.length - i) (AV.val (Value.map none))).length := by rw [List.length_replicate, hA.ql]; omega
          refine AW.regl false [] (by rfl) fun K17 hK17 => ?_ -- region 12
          simp only [go_sem, Nat.reduceAdd, Nat.reduceEqDiff, Nat.reduceLeDiff, true_and, List.length_map, len_row, one_row, List.drop_zero, blk_len, dgm_len, port_len, out_len, src_len, file_len, src_get, port_get, out_get, blk_get, dgm_get, file_get, dgm_all, blk_all, src_all, port_all, out_all, file_all, set_geta, set_geta0, set_seta, gT, hatY, aMakeMap, gY, hspY, if_pos hszY, List.set_append_left _ _ hYl]
          refine hK17 _ _ ?_; try clear hK17 K17
          conv => enter [5]; simp only [setL_cons, setL_nil, List.set_cons_zero, List.set_cons_succ, upd_none, upd_at]
          obtain ⟨ρ2, hρ2⟩ : ∃ z, z = ρ.set (σ.length + 6) (.cells ((qs.map AV.mapo ++ List.replicate (f.ds.length - i) (AV.val (.map none))).set i (.mapo (ρ.length + 1)))) := ⟨_, rfl⟩
          have hl2 : ρ2.length = ρ.length := by rw [hρ2]; simp
          rw [← hρ2, ← hl2]
          have hS2 : ρ2[σ.length + 8]? = some (.cells (gx (subsL f) i)) := by rw [hρ2, get_set (by omega)]; exact hA.sb
          have hiL : i < (subsL f).length := by rw [subsL_len]; exact hi1
          have hLi : (subsL f)[i] = subsB d.blocks := by simp [subsL, hd]
          have hgl : (gx (subsL f) i).length = f.ds.length := by rw [gx_len (by omega), subsL_len]
          refine AW.cap 1 ?_
          simp only [List.append_assoc, List.cons_append, List.nil_append]
          refine AW.own (σ.length + 8) i (ρ2.length + 2) (getL hS2 _) (gx_at hiL) ((app_get ρ2 _ 2).trans rfl) (by decide) ?_
          rw [List.set_append_left _ _ (show σ.length + 8 < ρ2.length by omega)]
          refine AW.regl false [68, 69, 70] (by rfl) fun K18 hK18 => ?_ -- region 13
          simp only [go_sem, Nat.reduceAdd, Nat.reduceEqDiff, Nat.reduceLeDiff, true_and, List.length_map, len_row, one_row, List.drop_zero, blk_len, dgm_len, port_len, out_len, src_len, file_len, src_get, port_get, out_get, blk_get, dgm_get, file_get, dgm_all, blk_all, src_all, port_all, out_all, file_all, set_geta, set_geta0, set_seta, Dgm.enc]
          refine hK18 _ _ ?_; try clear hK18 K18
          conv => enter [5]; simp only [setL_cons, setL_nil, List.set_cons_zero, List.set_cons_succ]
          refine AW.block ?_
          refine AW.loop_dr (α := Nat) (fun j => [.any, (.ref σ.length 0), .any, .any, .any, (.ref (σ.length + 4) 0), (.osl (σ.length + 8) 0 f.ds.length 1), (i64 ((i : Nat) : Int)), (.ref ρ2.length 0), .any, .any, .any, .any, .any, .any, .any, .any, .any, .any, .any, .any, .any, .any, .any, .any, .any, .any, .any, .any, .any, .any, .any, .any, .any, (rowAV 4 f.nl (f.ds.map Dgm.enc)), (.val (.int .i64 ((f.ds.length : Nat) : Int))), (.val (.int .i64 ((i : Nat) : Int))), .any, .any, .any, .any, .any, .any, .any, .any, .any, .any, .any, .any, .any, .any, .any, .any, .any, .any, .any, .any, .any, .any, .any, .any, .any, .any, .any, .any, .any, .any, .any, (rowAV 7 d.nlB (d.blocks.map Blk.enc)), (.val (.int .i64 ((d.blocks.length : Nat) : Int))), (.val (.int .i64 ((j : Nat) : Int))), .any, .any, .any, .any, .any, .any, .any, .any, .any, .any, .any, .any, .any, .any, .any, .any, .any, .any, .any, .any, .any, .any, .any, .any, .any, .any, .any, .any, .any, .any, .any, .any, .any, .any, .any, .any, .any, .any, .any, .any, .any, .any, .any, .any]) (fun j => ρ2.set (σ.length + 8) (.cells ((gx (subsL f) i).set i (.slo true 1 ((subsB (d.blocks.take j)).map natA) (ρ2.length + 2)))) ++ [.cells d.enc.cells, .map [] [], .cap (subsB (d.blocks.take j)).length 1]) (fun j => d.blocks.length - j) (fun j => j ≤ d.blocks.length) 0 ?_ ?_ ?_
          · exact ⟨Nat.zero_le _, by simp [Wk], rfl⟩
          · refine fun y _ => ⟨?_, set_bela ?_ fun a ha => ?_⟩
            · simp only [belL, AV.bel, Bool.and_true, Bool.true_and, Bool.and_eq_true, decide_eq_true_eq, List.length_append, List.length_set, List.length_cons, List.length_nil, row_bel dgm_bel, row_bel blk_bel, and_true, true_and]
              omega
            · exact belL_set (by simp only [AV.bel, belL_map natA _ fun _ _ => nat_bel _ _, Bool.and_true, decide_eq_true_eq, List.length_append, List.length_set, List.length_cons, List.length_nil]; omega) (gx_bel _ _ _)
            · simp only [List.mem_cons, List.not_mem_nil, or_false] at ha
              rcases ha with rfl | rfl | rfl
              · exact dgm_cb d _
              · rfl
              · rfl
          · intro j hi
            refine AW.regl false [71] (by rfl) fun K19 hK19 => ?_ -- region 14
            simp only [go_sem, Nat.reduceAdd, Nat.reduceEqDiff, Nat.reduceLeDiff, true_and, List.length_map, len_row, one_row, List.drop_zero, blk_len, dgm_len, port_len, out_len, src_len, file_len, src_get, port_get, out_get, blk_get, dgm_get, file_get, dgm_all, blk_all, src_all, port_all, out_all, file_all, set_geta, set_geta0, set_seta]
            refine hK19 _ _ ?_; try clear hK19 K19
            conv => enter [5]; simp only [setL_cons, setL_nil, List.set_cons_zero, List.set_cons_succ]
            refine AW.seq_k fun K20 hK20 => ?_
            refine AW.cond rfl (fun hc71 => ?_) (fun hc71 => ?_)
            · skip
              have hj1 : j < d.blocks.length := by simpa using hc71
              obtain ⟨b, hb⟩ : ∃ z, z = d.blocks[j] := ⟨_, rfl⟩
              have hy : (d.blocks.map Blk.enc)[j]? = some b.enc := by rw [hb]; simp [hj1]
              have hbm : b ∈ d.blocks := by rw [hb]; exact List.getElem_mem hj1
              have hsn := subsB_snoc hj1
              rw [← hb] at hsn
              refine AW.skip ?_
              refine hK20 _ _ ?_; try clear hK20 K20
              refine AW.seq_k fun K21 hK21 => ?_
              refine AW.block ?_
              refine AW.regl false [12] (by rfl) fun K22 hK22 => ?_ -- region 15
              simp only [go_sem, Nat.reduceAdd, Nat.reduceEqDiff, Nat.reduceLeDiff, true_and, List.length_map, len_row, one_row, List.drop_zero, blk_len, dgm_len, port_len, out_len, src_len, file_len, src_get, port_get, out_get, blk_get, dgm_get, file_get, dgm_all, blk_all, src_all, port_all, out_all, file_all, set_geta, set_geta0, set_seta, at_row hy]
              refine hK22 _ _ ?_; try clear hK22 K22
              conv => enter [5]; simp only [setL_cons, setL_nil, List.set_cons_zero, List.set_cons_succ, upd_none, upd_at]
              refine AW.regl false [76] (by rfl) fun K23 hK23 => ?_ -- region 16
              simp only [go_sem, Nat.reduceAdd, Nat.reduceEqDiff, Nat.reduceLeDiff, true_and, List.length_map, len_row, one_row, List.drop_zero, blk_len, dgm_len, port_len, out_len, src_len, file_len, src_get, port_get, out_get, blk_get, dgm_get, file_get, dgm_all, blk_all, src_all, port_all, out_all, file_all, set_geta, set_geta0, set_seta, Blk.enc]
              refine hK23 _ _ ?_; try clear hK23 K23
              conv => enter [5]; simp only [setL_cons, setL_nil, List.set_cons_zero, List.set_cons_succ]
              refine AW.cond rfl (fun hc76 => ?_) (fun hc76 => ?_)
              · skip
                have h7 : b.kind = 7 := by simpa using hc76
                obtain ⟨q, hq⟩ := Int.eq_ofNat_of_zero_le ((hgd d hdm).wf b hbm |>.sub h7).1
                rw [if_pos hc76, hq, Int.toNat_natCast] at hsn
                obtain ⟨H, hHd⟩ : ∃ z, z = subsB (d.blocks.take j) := ⟨_, rfl⟩
                have hHl : H.length ≤ 2000 := by
                  rw [hHd]
                  have h1 : (subsB (d.blocks.take j)).length ≤ (d.blocks.take j).length := by simp only [subsB, List.length_map]; exact List.length_filter_le _ _
                  have := hdz.blocks
                  rw [List.length_take] at h1
                  omega
                rw [← hHd] at hsn ⊢
                have hdrS := dr_set (l := gx (subsL f) i) (i := i) (by rw [hgl]; exact hi1) (.slo true 1 (H.map natA) (ρ2.length + 2))
                have hapH := fun σ k => ap_natN (l := H) (by omega) true q σ k
                have hspS := spl_set (l := gx (subsL f) i) (i := i) (by rw [hgl]; exact hi1) (.slo true 1 (H.map natA) (ρ2.length + 2)) (.slo true 1 ((H ++ [q]).map natA) (ρ2.length + 2))
                have hszS : i + 1 ≤ (gx (subsL f) i).length := by rw [hgl]; exact hi1
                have hatS := at_osl (o := σ.length + 8) (k := .i64) hi1
                have gS := fun (c : List AV) (l : Sto) => getL (List.getElem?_set_self (a := AO.cells c) (show σ.length + 8 < ρ2.length by omega)) l
                have hset := fun (c c' : List AV) (l : Sto) => (List.set_append_left (s := ρ2.set (σ.length + 8) (.cells c)) (t := l) (σ.length + 8) (.cells c') (by simp; omega)).trans (by rw [List.set_set])
                refine AW.lastch mixed [ρ2.set (σ.length + 8) (.cells ((gx (subsL f) i).set i (.slo true 1 ((H).map natA) (ρ2.length + 2)))) ++ [.cells d.enc.cells, .map [] [], .cap H.length 1, .cells b.enc.cells], ρ2.set (σ.length + 8) (.cells ((gx (subsL f) i).set i (.slo true 1 ((H).map natA) (ρ2.length + 2)))) ++ [.cells d.enc.cells, .map [] [], .cap (H.length + 1) 1, .cells b.enc.cells], ρ2.set (σ.length + 8) (.cells ((gx (subsL f) i).set i (.slo true 1 ((H ++ [q]).map natA) (ρ2.length + 2)))) ++ [.cells d.enc.cells, .map [] [], .cap (H.length + 1) 1, .cells b.enc.cells]] [(0, 1, true), (0, 1, true), (0, 0, true), (0, 0, true), (0, 0, true), (0, 0, true), (0, 0, true), (0, 0, true), (0, 0, true), (0, 0, false), (1, 1, true), (0, 0, false)] [] (by kernel_rfl) (by rfl) (by kernel_rfl) (by rfl) fun K hK => ?_ -- region 17
                simp only [go_sem, Nat.reduceAdd, Nat.reduceEqDiff, Nat.reduceLeDiff, true_and, List.length_map, len_row, one_row, List.drop_zero, blk_len, dgm_len, port_len, out_len, src_len, file_len, src_get, port_get, out_get, blk_get, dgm_get, file_get, dgm_all, blk_all, src_all, port_all, out_all, file_all, set_geta, set_geta0, set_seta, Blk.enc, hq, hatS, gS, hdrS, List.length_set, hapH, hspS, if_pos hszS, hset, List.append_assoc, List.cons_append, List.nil_append]
                refine xE.of (by first | rfl | (simp; done) | (simp; repeat' constructor)) ?_
                simp only [go_sem, Nat.reduceAdd, Nat.reduceEqDiff, Nat.reduceLeDiff, true_and, List.length_map, len_row, one_row, List.drop_zero, blk_len, dgm_len, port_len, out_len, src_len, file_len, src_get, port_get, out_get, blk_get, dgm_get, file_get, dgm_all, blk_all, src_all, port_all, out_all, file_all, set_geta, set_geta0, set_seta, Blk.enc, hq, hatS, gS, hdrS, List.length_set, hapH, hspS, if_pos hszS, hset, List.append_assoc, List.cons_append, List.nil_append]
                refine xE.of (by first | rfl | (simp; done) | (simp; repeat' constructor)) ?_
                simp only [go_sem, Nat.reduceAdd, Nat.reduceEqDiff, Nat.reduceLeDiff, true_and, List.length_map, len_row, one_row, List.drop_zero, blk_len, dgm_len, port_len, out_len, src_len, file_len, src_get, port_get, out_get, blk_get, dgm_get, file_get, dgm_all, blk_all, src_all, port_all, out_all, file_all, set_geta, set_geta0, set_seta, Blk.enc, hq, hatS, gS, hdrS, List.length_set, hapH, hspS, if_pos hszS, hset, List.append_assoc, List.cons_append, List.nil_append]
                refine hK _ fun env' hw => ?_
                simp only [setL_cons, setL_nil, List.set_cons_zero, List.set_cons_succ, upd_none, upd_at] at hw
                refine hK21 _ _ (AW.weaken hw ?_); clear hw; try clear hK21 K21
                refine AW.lastl false [70] (by rfl) fun K hK => ?_ -- region 18
                simp only [go_sem, Nat.reduceAdd, Nat.reduceEqDiff, Nat.reduceLeDiff, true_and, List.length_map, len_row, one_row, List.drop_zero, blk_len, dgm_len, port_len, out_len, src_len, file_len, src_get, port_get, out_get, blk_get, dgm_get, file_get, dgm_all, blk_all, src_all, port_all, out_all, file_all, set_geta, set_geta0, set_seta]
                refine hK _ _ fun env' hw => ?_
                simp only [setL_cons, setL_nil, List.set_cons_zero, List.set_cons_succ] at hw
                refine ⟨j + 1, by omega, by omega, ?_, ?_⟩
                · refine hw.trans ?_
                  simp [Wk, wrap_succ hj1 hlB]
                · rw [hsn]
                  simp [List.take_append, List.take_of_length_le]
              · skip
                rw [if_neg (ne_true_of_eq_false hc76), List.append_nil] at hsn
                refine AW.skip ?_
                refine hK21 _ _ ?_; try clear hK21 K21
                refine AW.lastl false [70] (by rfl) fun K hK => ?_ -- region 18
                simp only [go_sem, Nat.reduceAdd, Nat.reduceEqDiff, Nat.reduceLeDiff, true_and, List.length_map, len_row, one_row, List.drop_zero, blk_len, dgm_len, port_len, out_len, src_len, file_len, src_get, port_get, out_get, blk_get, dgm_get, file_get, dgm_all, blk_all, src_all, port_all, out_all, file_all, set_geta, set_geta0, set_seta]
                refine hK _ _ fun env' hw => ?_
                simp only [setL_cons, setL_nil, List.set_cons_zero, List.set_cons_succ] at hw
                refine ⟨j + 1, by omega, by omega, ?_, ?_⟩
                · refine hw.trans ?_
                  simp [Wk, wrap_succ hj1 hlB]
                · rw [hsn]
                  simp [List.take_append, List.take_of_length_le]
            · skip
              have hj1 : j = d.blocks.length := by
                have : ¬ j < d.blocks.length := by simpa using hc71
                omega
              refine AW.exit ?_
              refine hK12 _ _ ?_; try clear hK12 K12
              refine AW.still (σ.length + 8) (getL (List.getElem?_set_self (show σ.length + 8 < ρ2.length by omega)) _) ?_
              rw [List.set_append_left _ _ (by simp; omega), List.set_set, hj1, List.take_length, ← hLi, gx_still hiL]
              refine AW.lastl false [36] (by rfl) fun K hK => ?_ -- region 19
              simp only [go_sem, Nat.reduceAdd, Nat.reduceEqDiff, Nat.reduceLeDiff, true_and, List.length_map, len_row, one_row, List.drop_zero, blk_len, dgm_len, port_len, out_len, src_len, file_len, src_get, port_get, out_get, blk_get, dgm_get, file_get, dgm_all, blk_all, src_all, port_all, out_all, file_all, set_geta, set_geta0, set_seta]
              refine hK _ _ fun env' hw => ?_
              simp only [setL_cons, setL_nil, List.set_cons_zero, List.set_cons_succ] at hw
              refine ⟨(i + 1, ((ρ.set (σ.length + 6) (.cells ((qs.map AV.mapo ++ List.replicate (f.ds.length - i) (AV.val (.map none))).set i (.mapo (ρ.length + 1))))).set (σ.length + 8) (.cells (gx (subsL f) (i + 1)))) ++ [.cells d.enc.cells, .map [] [], .cap (subsB d.blocks).length 1]), by simp only; omega, ⟨by simp only; omega, N, qs ++ [ρ.length + 1], hA.done hi1⟩, ?_, ?_⟩
              · refine hw.trans ?_
                simp [Wk, wrap_succ hi1 hlF]
              · subst hρ2
                simp only [hLi]
        · skip
          have hnn : ¬ lookN N d.name = none := by simpa [Option.isSome_iff_ne_none] using hc52
          refine AW.skip ?_
          refine hK14 _ _ ?_; try clear hK14 K14
          have hA := hA.skip hfd hnn
          have hlen := hA.len
          have gT := fun l => getL hA.t l
          have gY := fun l => getL hA.ty l
          have hYl : σ.length + 6 < ρ.length := by omega
          have htl : i < (qs.map AV.mapo ++ List.replicate (f.ds.length - i) (AV.val (.map none))).length := by simp [hA.ql]; omega
          have hatY := at_osl (o := σ.length + 6) (k := .i64) hi1
          have hspY := spl_gen htl (.mapo (ρ.length + 1))
          have hszY : i + 1 ≤ qs.length + (List.replicate (f.ds.length - i) (AV.val (Value.map none))).length := by rw [List.length_replicate, hA.ql]; omega
          refine AW.regl false [] (by rfl) fun K24 hK24 => ?_ -- region 12
          simp only [go_sem, Nat.reduceAdd, Nat.reduceEqDiff, Nat.reduceLeDiff, true_and, List.length_map, len_row, one_row, List.drop_zero, blk_len, dgm_len, port_len, out_len, src_len, file_len, src_get, port_get, out_get, blk_get, dgm_get, file_get, dgm_all, blk_all, src_all, port_all, out_all, file_all, set_geta, set_geta0, set_seta, gT, hatY, aMakeMap, gY, hspY, if_pos hszY, List.set_append_left _ _ hYl]
          refine hK24 _ _ ?_; try clear hK24 K24
          conv => enter [5]; simp only [setL_cons, setL_nil, List.set_cons_zero, List.set_cons_succ, upd_none, upd_at]
          obtain ⟨ρ2, hρ2⟩ : ∃ z, z = ρ.set (σ.length + 6) (.cells ((qs.map AV.mapo ++ List.replicate (f.ds.length - i) (AV.val (.map none))).set i (.mapo (ρ.length + 1)))) := ⟨_, rfl⟩
          have hl2 : ρ2.length = ρ.length := by rw [hρ2]; simp
          rw [← hρ2, ← hl2]
          have hS2 : ρ2[σ.length + 8]? = some (.cells (gx (subsL f) i)) := by rw [hρ2, get_set (by omega)]; exact hA.sb
          have hiL : i < (subsL f).length := by rw [subsL_len]; exact hi1
          have hLi : (subsL f)[i] = subsB d.blocks := by simp [subsL, hd]
          have hgl : (gx (subsL f) i).length = f.ds.length := by rw [gx_len (by omega), subsL_len]
          refine AW.cap 1 ?_
          simp only [List.append_assoc, List.cons_append, List.nil_append]
          refine AW.own (σ.length + 8) i (ρ2.length + 2) (getL hS2 _) (gx_at hiL) ((app_get ρ2 _ 2).trans rfl) (by decide) ?_
          rw [List.set_append_left _ _ (show σ.length + 8 < ρ2.length by omega)]
          refine AW.regl false [68, 69, 70] (by rfl) fun K25 hK25 => ?_ -- region 13
          simp only [go_sem, Nat.reduceAdd, Nat.reduceEqDiff, Nat.reduceLeDiff, true_and, List.length_map, len_row, one_row, List.drop_zero, blk_len, dgm_len, port_len, out_len, src_len, file_len, src_get, port_get, out_get, blk_get, dgm_get, file_get, dgm_all, blk_all, src_all, port_all, out_all, file_all, set_geta, set_geta0, set_seta, Dgm.enc]
          refine hK25 _ _ ?_; try clear hK25 K25
          conv => enter [5]; simp only [setL_cons, setL_nil, List.set_cons_zero, List.set_cons_succ]
          refine AW.block ?_
          refine AW.loop_dr (α := Nat) (fun j => [.any, (.ref σ.length 0), .any, .any, .any, (.ref (σ.length + 4) 0), (.osl (σ.length + 8) 0 f.ds.length 1), (i64 ((i : Nat) : Int)), (.ref ρ2.length 0), .any, .any, .any, .any, .any, .any, .any, .any, .any, .any, .any, .any, .any, .any, .any, .any, .any, .any, .any, .any, .any, .any, .any, .any, .any, (rowAV 4 f.nl (f.ds.map Dgm.enc)), (.val (.int .i64 ((f.ds.length : Nat) : Int))), (.val (.int .i64 ((i : Nat) : Int))), .any, .any, .any, .any, .any, .any, .any, .any, .any, .any, .any, .any, .any, .any, .any, .any, .any, .any, .any, .any, .any, .any, .any, .any, .any, .any, .any, .any, .any, .any, .any, (rowAV 7 d.nlB (d.blocks.map Blk.enc)), (.val (.int .i64 ((d.blocks.length : Nat) : Int))), (.val (.int .i64 ((j : Nat) : Int))), .any, .any, .any, .any, .any, .any, .any, .any, .any, .any, .any, .any, .any, .any, .any, .any, .any, .any, .any, .any, .any, .any, .any, .any, .any, .any, .any, .any, .any, .any, .any, .any, .any, .any, .any, .any, .any, .any, .any, .any, .any, .any, .any, .any]) (fun j => ρ2.set (σ.length + 8) (.cells ((gx (subsL f) i).set i (.slo true 1 ((subsB (d.blocks.take j)).map natA) (ρ2.length + 2)))) ++ [.cells d.enc.cells, .map [] [], .cap (subsB (d.blocks.take j)).length 1]) (fun j => d.blocks.length - j) (fun j => j ≤ d.blocks.length) 0 ?_ ?_ ?_
          · exact ⟨Nat.zero_le _, by simp [Wk], rfl⟩
          · refine fun y _ => ⟨?_, set_bela ?_ fun a ha => ?_⟩
            · simp only [belL, AV.bel, Bool.and_true, Bool.true_and, Bool.and_eq_true, decide_eq_true_eq, List.length_append, List.length_set, List.length_cons, List.length_nil, row_bel dgm_bel, row_bel blk_bel, and_true, true_and]
              omega
            · exact belL_set (by simp only [AV.bel, belL_map natA _ fun _ _ => nat_bel _ _, Bool.and_true, decide_eq_true_eq, List.length_append, List.length_set, List.length_cons, List.length_nil]; omega) (gx_bel _ _ _)
            · simp only [List.mem_cons, List.not_mem_nil, or_false] at ha
              rcases ha with rfl | rfl | rfl
              · exact dgm_cb d _
              · rfl
              · rfl
          · intro j hi
            refine AW.regl false [71] (by rfl) fun K26 hK26 => ?_ -- region 14
            simp only [go_sem, Nat.reduceAdd, Nat.reduceEqDiff, Nat.reduceLeDiff, true_and, List.length_map, len_row, one_row, List.drop_zero, blk_len, dgm_len, port_len, out_len, src_len, file_len, src_get, port_get, out_get, blk_get, dgm_get, file_get, dgm_all, blk_all, src_all, port_all, out_all, file_all, set_geta, set_geta0, set_seta]
            refine hK26 _ _ ?_; try clear hK26 K26
            conv => enter [5]; simp only [setL_cons, setL_nil, List.set_cons_zero, List.set_cons_succ]
            refine AW.seq_k fun K27 hK27 => ?_
            refine AW.cond rfl (fun hc71 => ?_) (fun hc71 => ?_)
            · skip
              have hj1 : j < d.blocks.length := by simpa using hc71
              obtain ⟨b, hb⟩ : ∃ z, z = d.blocks[j] := ⟨_, rfl⟩
              have hy : (d.blocks.map Blk.enc)[j]? = some b.enc := by rw [hb]; simp [hj1]
              have hbm : b ∈ d.blocks := by rw [hb]; exact List.getElem_mem hj1
              have hsn := subsB_snoc hj1
              rw [← hb] at hsn
              refine AW.skip ?_
              refine hK27 _ _ ?_; try clear hK27 K27
              refine AW.seq_k fun K28 hK28 => ?_
              refine AW.block ?_
              refine AW.regl false [12] (by rfl) fun K29 hK29 => ?_ -- region 15
              simp only [go_sem, Nat.reduceAdd, Nat.reduceEqDiff, Nat.reduceLeDiff, true_and, List.length_map, len_row, one_row, List.drop_zero, blk_len, dgm_len, port_len, out_len, src_len, file_len, src_get, port_get, out_get, blk_get, dgm_get, file_get, dgm_all, blk_all, src_all, port_all, out_all, file_all, set_geta, set_geta0, set_seta, at_row hy]
              refine hK29 _ _ ?_; try clear hK29 K29
              conv => enter [5]; simp only [setL_cons, setL_nil, List.set_cons_zero, List.set_cons_succ, upd_none, upd_at]
              refine AW.regl false [76] (by rfl) fun K30 hK30 => ?_ -- region 16
              simp only [go_sem, Nat.reduceAdd, Nat.reduceEqDiff, Nat.reduceLeDiff, true_and, List.length_map, len_row, one_row, List.drop_zero, blk_len, dgm_len, port_len, out_len, src_len, file_len, src_get, port_get, out_get, blk_get, dgm_get, file_get, dgm_all, blk_all, src_all, port_all, out_all, file_all, set_geta, set_geta0, set_seta, Blk.enc]
              refine hK30 _ _ ?_; try clear hK30 K30
              conv => enter [5]; simp only [setL_cons, setL_nil, List.set_cons_zero, List.set_cons_succ]
              refine AW.cond rfl (fun hc76 => ?_) (fun hc76 => ?_)
              · skip
                have h7 : b.kind = 7 := by simpa using hc76
                obtain ⟨q, hq⟩ := Int.eq_ofNat_of_zero_le ((hgd d hdm).wf b hbm |>.sub h7).1
                rw [if_pos hc76, hq, Int.toNat_natCast] at hsn
                obtain ⟨H, hHd⟩ : ∃ z, z = subsB (d.blocks.take j) := ⟨_, rfl⟩
                have hHl : H.length ≤ 2000 := by
                  rw [hHd]
                  have h1 : (subsB (d.blocks.take j)).length ≤ (d.blocks.take j).length := by simp only [subsB, List.length_map]; exact List.length_filter_le _ _
                  have := hdz.blocks
                  rw [List.length_take] at h1
                  omega
                rw [← hHd] at hsn ⊢
                have hdrS := dr_set (l := gx (subsL f) i) (i := i) (by rw [hgl]; exact hi1) (.slo true 1 (H.map natA) (ρ2.length + 2))
                have hapH := fun σ k => ap_natN (l := H) (by omega) true q σ k
                have hspS := spl_set (l := gx (subsL f) i) (i := i) (by rw [hgl]; exact hi1) (.slo true 1 (H.map natA) (ρ2.length + 2)) (.slo true 1 ((H ++ [q]).map natA) (ρ2.length + 2))
                have hszS : i + 1 ≤ (gx (subsL f) i).length := by rw [hgl]; exact hi1
                have hatS := at_osl (o := σ.length + 8) (k := .i64) hi1
                have gS := fun (c : List AV) (l : Sto) => getL (List.getElem?_set_self (a := AO.cells c) (show σ.length + 8 < ρ2.length by omega)) l
                have hset := fun (c c' : List AV) (l : Sto) => (List.set_append_left (s := ρ2.set (σ.length + 8) (.cells c)) (t := l) (σ.length + 8) (.cells c') (by simp; omega)).trans (by rw [List.set_set])
                refine AW.lastch mixed [ρ2.set (σ.length + 8) (.cells ((gx (subsL f) i).set i (.slo true 1 ((H).map natA) (ρ2.length + 2)))) ++ [.cells d.enc.cells, .map [] [], .cap H.length 1, .cells b.enc.cells], ρ2.set (σ.length + 8) (.cells ((gx (subsL f) i).set i (.slo true 1 ((H).map natA) (ρ2.length + 2)))) ++ [.cells d.enc.cells, .map [] [], .cap (H.length + 1) 1, .cells b.enc.cells], ρ2.set (σ.length + 8) (.cells ((gx (subsL f) i).set i (.slo true 1 ((H ++ [q]).map natA) (ρ2.length + 2)))) ++ [.cells d.enc.cells, .map [] [], .cap (H.length + 1) 1, .cells b.enc.cells]] [(0, 1, true), (0, 1, true), (0, 0, true), (0, 0, true), (0, 0, true), (0, 0, true), (0, 0, true), (0, 0, true), (0, 0, true), (0, 0, false), (1, 1, true), (0, 0, false)] [] (by kernel_rfl) (by rfl) (by kernel_rfl) (by rfl) fun K hK => ?_ -- region 17
                simp only [go_sem, Nat.reduceAdd, Nat.reduceEqDiff, Nat.reduceLeDiff, true_and, List.length_map, len_row, one_row, List.drop_zero, blk_len, dgm_len, port_len, out_len, src_len, file_len, src_get, port_get, out_get, blk_get, dgm_get, file_get, dgm_all, blk_all, src_all, port_all, out_all, file_all, set_geta, set_geta0, set_seta, Blk.enc, hq, hatS, gS, hdrS, List.length_set, hapH, hspS, if_pos hszS, hset, List.append_assoc, List.cons_append, List.nil_append]
                refine xE.of (by first | rfl | (simp; done) | (simp; repeat' constructor)) ?_
                simp only [go_sem, Nat.reduceAdd, Nat.reduceEqDiff, Nat.reduceLeDiff, true_and, List.length_map, len_row, one_row, List.drop_zero, blk_len, dgm_len, port_len, out_len, src_len, file_len, src_get, port_get, out_get, blk_get, dgm_get, file_get, dgm_all, blk_all, src_all, port_all, out_all, file_all, set_geta, set_geta0, set_seta, Blk.enc, hq, hatS, gS, hdrS, List.length_set, hapH, hspS, if_pos hszS, hset, List.append_assoc, List.cons_append, List.nil_append]
                refine xE.of (by first | rfl | (simp; done) | (simp; repeat' constructor)) ?_
                simp only [go_sem, Nat.reduceAdd, Nat.reduceEqDiff, Nat.reduceLeDiff, true_and, List.length_map, len_row, one_row, List.drop_zero, blk_len, dgm_len, port_len, out_len, src_len, file_len, src_get, port_get, out_get, blk_get, dgm_get, file_get, dgm_all, blk_all, src_all, port_all, out_all, file_all, set_geta, set_geta0, set_seta, Blk.enc, hq, hatS, gS, hdrS, List.length_set, hapH, hspS, if_pos hszS, hset, List.append_assoc, List.cons_append, List.nil_append]
                refine hK _ fun env' hw => ?_
                simp only [setL_cons, setL_nil, List.set_cons_zero, List.set_cons_succ, upd_none, upd_at] at hw
                refine hK28 _ _ (AW.weaken hw ?_); clear hw; try clear hK28 K28
                refine AW.lastl false [70] (by rfl) fun K hK => ?_ -- region 18
                simp only [go_sem, Nat.reduceAdd, Nat.reduceEqDiff, Nat.reduceLeDiff, true_and, List.length_map, len_row, one_row, List.drop_zero, blk_len, dgm_len, port_len, out_len, src_len, file_len, src_get, port_get, out_get, blk_get, dgm_get, file_get, dgm_all, blk_all, src_all, port_all, out_all, file_all, set_geta, set_geta0, set_seta]
                refine hK _ _ fun env' hw => ?_
                simp only [setL_cons, setL_nil, List.set_cons_zero, List.set_cons_succ] at hw
                refine ⟨j + 1, by omega, by omega, ?_, ?_⟩
                · refine hw.trans ?_
                  simp [Wk, wrap_succ hj1 hlB]
                · rw [hsn]
                  simp [List.take_append, List.take_of_length_le]
              · skip
                rw [if_neg (ne_true_of_eq_false hc76), List.append_nil] at hsn
                refine AW.skip ?_
                refine hK28 _ _ ?_; try clear hK28 K28
                refine AW.lastl false [70] (by rfl) fun K hK => ?_ -- region 18
                simp only [go_sem, Nat.reduceAdd, Nat.reduceEqDiff, Nat.reduceLeDiff, true_and, List.length_map, len_row, one_row, List.drop_zero, blk_len, dgm_len, port_len, out_len, src_len, file_len, src_get, port_get, out_get, blk_get, dgm_get, file_get, dgm_all, blk_all, src_all, port_all, out_all, file_all, set_geta, set_geta0, set_seta]
                refine hK _ _ fun env' hw => ?_
                simp only [setL_cons, setL_nil, List.set_cons_zero, List.set_cons_succ] at hw
                refine ⟨j + 1, by omega, by omega, ?_, ?_⟩
                · refine hw.trans ?_
                  simp [Wk, wrap_succ hj1 hlB]
                · rw [hsn]
                  simp [List.take_append, List.take_of_length_le]
            · skip
              have hj1 : j = d.blocks.length := by
                have : ¬ j < d.blocks.length := by simpa using hc71
                omega
              refine AW.exit ?_
              refine hK12 _ _ ?_; try clear hK12 K12
              refine AW.still (σ.length + 8) (getL (List.getElem?_set_self (show σ.length + 8 < ρ2.length by omega)) _) ?_
              rw [List.set_append_left _ _ (by simp; omega), List.set_set, hj1, List.take_length, ← hLi, gx_still hiL]
              refine AW.lastl false [36] (by rfl) fun K hK => ?_ -- region 19
              simp only [go_sem, Nat.reduceAdd, Nat.reduceEqDiff, Nat.reduceLeDiff, true_and, List.length_map, len_row, one_row, List.drop_zero, blk_len, dgm_len, port_len, out_len, src_len, file_len, src_get, port_get, out_get, blk_get, dgm_get, file_get, dgm_all, blk_all, src_all, port_all, out_all, file_all, set_geta, set_geta0, set_seta]
              refine hK _ _ fun env' hw => ?_
              simp only [setL_cons, setL_nil, List.set_cons_zero, List.set_cons_succ] at hw
              refine ⟨(i + 1, ((ρ.set (σ.length + 6) (.cells ((qs.map AV.mapo ++ List.replicate (f.ds.length - i) (AV.val (.map none))).set i (.mapo (ρ.length + 1))))).set (σ.length + 8) (.cells (gx (subsL f) (i + 1)))) ++ [.cells d.enc.cells, .map [] [], .cap (subsB d.blocks).length 1]), by simp only; omega, ⟨by simp only; omega, N, qs ++ [ρ.length + 1], hA.done hi1⟩, ?_, ?_⟩
              · refine hw.trans ?_
                simp [Wk, wrap_succ hi1 hlF]
              · subst hρ2
                simp only [hLi]
      · skip
        have hi1 : i = f.ds.length := by
          have : ¬ i < f.ds.length := by simpa using hc37
          omega
        rw [hi1] at hA
        have hT0 := hA.all
        have gF := hA.fb
        refine AW.exit ?_
        refine hK8 _ _ ?_; try clear hK8 K8
        refine AW.seq_k fun K31 hK31 => ?_
        refine AW.regl false [92, 93] (by rfl) fun K32 hK32 => ?_ -- region 20
        simp only [go_sem, Nat.reduceAdd, Nat.reduceEqDiff, Nat.reduceLeDiff, true_and, List.length_map, len_row, one_row, List.drop_zero, blk_len, dgm_len, port_len, out_len, src_len, file_len, src_get, port_get, out_get, blk_get, dgm_get, file_get, dgm_all, blk_all, src_all, port_all, out_all, file_all, set_geta, set_geta0, set_seta, gF, file_cells]
        refine hK32 _ _ ?_; try clear hK32 K32
        conv => enter [5]; simp only [setL_cons, setL_nil, List.set_cons_zero, List.set_cons_succ]
        refine AW.block ?_
        refine AW.loop_wk (α := Nat × Sto) (fun z => [.any, .any, .any, .any, .any, (.ref (σ.length + 4) 0), (.osl (σ.length + 8) 0 f.ds.length 1), .any, .any, .any, .any, .any, .any, .any, .any, .any, .any, .any, .any, .any, .any, .any, .any, .any, .any, .any, .any, .any, .any, .any, .any, .any, .any, .any, .any, .any, .any, .any, .any, .any, .any, .any, .any, .any, .any, .any, .any, .any, .any, .any, .any, .any, .any, .any, .any, .any, .any, .any, .any, .any, .any, .any, .any, .any, .any, .any, .any, .any, .any, .any, .any, .any, .any, .any, .any, .any, .any, .any, .any, .any, .any, .any, .any, .any, .any, .any, .any, .any, .any, .any, .any, .any, (.val (.int .i64 ((f.ds.length : Nat) : Int))), (i64 ((z.1 : Nat) : Int)), .any, .any, .any, .any, .any, .any, .any, .any, .any, .any, .any, .any, .any, .any, .any, .any, .any, .any, .any, .any, .any]) (fun z => z.2) (fun z => f.ds.length - z.1) (fun z => z.1 ≤ f.ds.length ∧ (∀ j, j < z.1 → diaCAt f j = 0) ∧ ∃ qs ords, TS f σ z.1 N qs ords z.2) (0, ρ) ?_ ?_
        · exact ⟨⟨Nat.zero_le _, fun j h => absurd h (Nat.not_lt_zero _), _, _, hT0⟩, by simp [Wk], rfl⟩
        · rintro ⟨i, ρ⟩ ⟨hi, hz, qs, ords, hT⟩
          simp only at hi hz hT
          refine AW.regl false [94] (by rfl) fun K33 hK33 => ?_ -- region 21
          simp only [go_sem, Nat.reduceAdd, Nat.reduceEqDiff, Nat.reduceLeDiff, true_and, List.length_map, len_row, one_row, List.drop_zero, blk_len, dgm_len, port_len, out_len, src_len, file_len, src_get, port_get, out_get, blk_get, dgm_get, file_get, dgm_all, blk_all, src_all, port_all, out_all, file_all, set_geta, set_geta0, set_seta]
          refine hK33 _ _ ?_; try clear hK33 K33
          conv => enter [5]; simp only [setL_cons, setL_nil, List.set_cons_zero, List.set_cons_succ]
          refine AW.seq_k fun K34 hK34 => ?_
          refine AW.cond rfl (fun hc94 => ?_) (fun hc94 => ?_)
          · skip
            have hi1 : i < f.ds.length := by simpa using hc94
            obtain ⟨d, hd⟩ : ∃ z, z = f.ds[i] := ⟨_, rfl⟩
            have hfd : f.ds[i]? = some d := by rw [hd]; exact List.getElem?_eq_getElem hi1
            have hdm := List.mem_of_getElem? hfd
            obtain ⟨q, hq⟩ : ∃ q, qs[i]? = some q := ⟨_, List.getElem?_eq_getElem (by rw [hT.ql]; exact hi1)⟩
            have hqa := hT.qa q (List.mem_of_getElem? hq)
            have hcall := diagram_calls' (w := w) (G := G) hΓ f (hT.tyAt hq) N hT.nm hT.or (by omega) (by omega) (by omega) (by omega) hT.ol hT.ob d hfd hf hsz (hgd d hdm) (hT.ns d.name)
            rw [sm_same (hT.new i q (Nat.le_refl _) hq)] at hcall
            have hlen := hT.len
            refine AW.skip ?_
            refine hK34 _ _ ?_; try clear hK34 K34
            refine AW.seq_k fun K35 hK35 => ?_
            refine AW.block ?_
            refine AW.regl false [13] (by rfl) fun K36 hK36 => ?_ -- region 22
            simp only [go_sem, Nat.reduceAdd, Nat.reduceEqDiff, Nat.reduceLeDiff, true_and, List.length_map, len_row, one_row, List.drop_zero, blk_len, dgm_len, port_len, out_len, src_len, file_len, src_get, port_get, out_get, blk_get, dgm_get, file_get, dgm_all, blk_all, src_all, port_all, out_all, file_all, set_geta, set_geta0, set_seta]
            refine hK36 _ _ ?_; try clear hK36 K36
            conv => enter [5]; simp only [setL_cons, setL_nil, List.set_cons_zero, List.set_cons_succ]
            refine AW.regl false [14] (by rfl) fun K37 hK37 => ?_ -- region 23
            simp only [go_sem, Nat.reduceAdd, Nat.reduceEqDiff, Nat.reduceLeDiff, true_and, List.length_map, len_row, one_row, List.drop_zero, blk_len, dgm_len, port_len, out_len, src_len, file_len, src_get, port_get, out_get, blk_get, dgm_get, file_get, dgm_all, blk_all, src_all, port_all, out_all, file_all, set_geta, set_geta0, set_seta]
            refine sC.ofR en28 (hcall) (fun v' σ' hR => ?_)
            obtain ⟨rfl, ⟨cs, M0, hst⟩, hz1⟩ := hR
            simp only [go_sem, Nat.reduceAdd, Nat.reduceEqDiff, Nat.reduceLeDiff, true_and, List.length_map, len_row, one_row, List.drop_zero, blk_len, dgm_len, port_len, out_len, src_len, file_len, src_get, port_get, out_get, blk_get, dgm_get, file_get, dgm_all, blk_all, src_all, port_all, out_all, file_all, set_geta, set_geta0, set_seta]
            refine hK37 _ _ ?_; try clear hK37 K37
            conv => enter [5]; simp only [setL_cons, setL_nil, List.set_cons_zero, List.set_cons_succ]
            refine AW.regl false [100] (by rfl) fun K38 hK38 => ?_ -- region 24
            simp only [go_sem, Nat.reduceAdd, Nat.reduceEqDiff, Nat.reduceLeDiff, true_and, List.length_map, len_row, one_row, List.drop_zero, blk_len, dgm_len, port_len, out_len, src_len, file_len, src_get, port_get, out_get, blk_get, dgm_get, file_get, dgm_all, blk_all, src_all, port_all, out_all, file_all, set_geta, set_geta0, set_seta]
            refine hK38 _ _ ?_; try clear hK38 K38
            conv => enter [5]; simp only [setL_cons, setL_nil, List.set_cons_zero, List.set_cons_succ]
            refine AW.cond rfl (fun hc100 => ?_) (fun hc100 => ?_)
            · skip
              have hne : ¬ diaC f i d = 0 := by simpa using hc100
              have hch : chkC f = diaC f i d := by rw [chkC_at hr hi1 hz (by rw [diaCAt_eq hfd]; exact hne), diaCAt_eq hfd]
              refine AW.regl false [2, 3] (by rfl) fun K39 hK39 => ?_ -- region 25
              simp only [go_sem, Nat.reduceAdd, Nat.reduceEqDiff, Nat.reduceLeDiff, true_and, List.length_map, len_row, one_row, List.drop_zero, blk_len, dgm_len, port_len, out_len, src_len, file_len, src_get, port_get, out_get, blk_get, dgm_get, file_get, dgm_all, blk_all, src_all, port_all, out_all, file_all, set_geta, set_geta0, set_seta]
              refine hK39 _ _ ?_; try clear hK39 K39
              conv => enter [5]; simp only [setL_cons, setL_nil, List.set_cons_zero, List.set_cons_succ]
              exact AW.ret ⟨.inr rfl, _, rfl, ⟨by rw [hst, sm_len, List.length_set]; omega, fun j hj => by rw [hst, sm, get_set (by omega), get_set (by omega)]; exact hT.pre j hj⟩, .inl ⟨by rw [hch]; exact hne, by rw [hch]; rfl⟩⟩
            · skip
              have hz0 : diaC f i d = 0 := by simpa using hc100
              clear hst
              obtain ⟨M, o, ho, rfl, hwk, hty⟩ := hz1 hz0
              refine AW.skip ?_
              refine hK35 _ _ ?_; try clear hK35 K35
              refine AW.lastl false [93] (by rfl) fun K hK => ?_ -- region 26
              simp only [go_sem, Nat.reduceAdd, Nat.reduceEqDiff, Nat.reduceLeDiff, true_and, List.length_map, len_row, one_row, List.drop_zero, blk_len, dgm_len, port_len, out_len, src_len, file_len, src_get, port_get, out_get, blk_get, dgm_get, file_get, dgm_all, blk_all, src_all, port_all, out_all, file_all, set_geta, set_geta0, set_seta]
              refine hK _ _ fun env' hw => ?_
              simp only [setL_cons, setL_nil, List.set_cons_zero, List.set_cons_succ] at hw
              refine ⟨(i + 1, sm (ρ.set (σ.length + 7) (.cells (ords.set i (rowN o)))) q M), by simp only; omega, ⟨by simp only; omega, fun j hj => by
                rcases Nat.lt_or_ge j i with h | h
                · exact hz j h
                · rw [show j = i by omega, diaCAt_eq hfd]; exact hz0, qs, ords.set i (rowN o), hT.next hq hfd ho hwk hty⟩, ?_, rfl⟩
              refine hw.trans ?_
              simp [Wk, wrap_succ hi1 hlF]
          · skip
            have hi1 : i = f.ds.length := by
              have : ¬ i < f.ds.length := by simpa using hc94
              omega
            rw [hi1] at hT hz
            have hlen := hT.len
            have hsc := sorted3 (Γ := GK w G) hf (fun d hd => (hgd d hd).subOk) hsz
            unfold ordV at hsc
            refine AW.exit ?_
            refine hK31 _ _ ?_; try clear hK31 K31
            refine freeze_end (σ.length + 8) f.ds.length 1 ((subsL f).map rowN) hT.sb (rowN_flat _) (by simp [subsL_len]) (fun e he => by obtain ⟨x, _, rfl⟩ := List.mem_map.1 he; exact rowN_len x) ?_
            conv => enter [5]; simp only [subL, AV.sub, and_self, if_true]
            have gT : (ρ.set (σ.length + 8) .dead)[σ.length + 4]? = _ := (get_set (by omega)).trans hT.t
            refine AW.regl false [15, 16] (by rfl) fun K40 hK40 => ?_ -- region 27
            simp only [go_sem, Nat.reduceAdd, Nat.reduceEqDiff, Nat.reduceLeDiff, true_and, List.length_map, len_row, one_row, List.drop_zero, blk_len, dgm_len, port_len, out_len, src_len, file_len, src_get, port_get, out_get, blk_get, dgm_get, file_get, dgm_all, blk_all, src_all, port_all, out_all, file_all, set_geta, set_geta0, set_seta]
            refine sC.of en29 (hsc.on _).here (by rfl) ?_
            simp only [go_sem, Nat.reduceAdd, Nat.reduceEqDiff, Nat.reduceLeDiff, true_and, List.length_map, len_row, one_row, List.drop_zero, blk_len, dgm_len, port_len, out_len, src_len, file_len, src_get, port_get, out_get, blk_get, dgm_get, file_get, dgm_all, blk_all, src_all, port_all, out_all, file_all, set_geta, set_geta0, set_seta]
            refine hK40 _ _ ?_; try clear hK40 K40
            conv => enter [5]; simp only [setL_cons, setL_nil, List.set_cons_zero, List.set_cons_succ]
            refine AW.seq_k fun K41 hK41 => ?_
            refine AW.regl false [109] (by rfl) fun K42 hK42 => ?_ -- region 28
            simp only [go_sem, Nat.reduceAdd, Nat.reduceEqDiff, Nat.reduceLeDiff, true_and, List.length_map, len_row, one_row, List.drop_zero, blk_len, dgm_len, port_len, out_len, src_len, file_len, src_get, port_get, out_get, blk_get, dgm_get, file_get, dgm_all, blk_all, src_all, port_all, out_all, file_all, set_geta, set_geta0, set_seta]
            refine hK42 _ _ ?_; try clear hK42 K42
            conv => enter [5]; simp only [setL_cons, setL_nil, List.set_cons_zero, List.set_cons_succ]
            refine AW.cond rfl (fun hc109 => ?_) (fun hc109 => ?_)
            · skip
              have hO : ¬ (ord (lmat (subsL f)) f.ds.length).isSome = true := by simpa using hc109
              have hch : chkC f = 9 := by rw [chkC_end hr hz, if_neg hO]
              refine AW.regl false [2, 3] (by rfl) fun K43 hK43 => ?_ -- region 29
              simp only [go_sem, Nat.reduceAdd, Nat.reduceEqDiff, Nat.reduceLeDiff, true_and, List.length_map, len_row, one_row, List.drop_zero, blk_len, dgm_len, port_len, out_len, src_len, file_len, src_get, port_get, out_get, blk_get, dgm_get, file_get, dgm_all, blk_all, src_all, port_all, out_all, file_all, set_geta, set_geta0, set_seta]
              refine hK43 _ _ ?_; try clear hK43 K43
              conv => enter [5]; simp only [setL_cons, setL_nil, List.set_cons_zero, List.set_cons_succ]
              exact AW.ret ⟨.inr rfl, _, rfl, ⟨by rw [List.length_set]; omega, fun j hj => by rw [get_set (by omega)]; exact hT.pre j hj⟩, .inl ⟨by rw [hch]; decide, by rw [hch]; rfl⟩⟩
            · skip
              have hO : (ord (lmat (subsL f)) f.ds.length).isSome = true := by simpa using hc109
              have hch : chkC f = 0 := by rw [chkC_end hr hz, if_pos hO]
              obtain ⟨dg, hdg⟩ := Option.isSome_iff_exists.1 hO
              rw [show (ord (lmat (subsL f)) f.ds.length).getD [] = dg by rw [hdg]; rfl]
              refine AW.skip ?_
              refine hK41 _ _ ?_; try clear hK41 K41
              refine AW.regl false [] (by rfl) fun K44 hK44 => ?_ -- region 30
              simp only [go_sem, Nat.reduceAdd, Nat.reduceEqDiff, Nat.reduceLeDiff, true_and, List.length_map, len_row, one_row, List.drop_zero, blk_len, dgm_len, port_len, out_len, src_len, file_len, src_get, port_get, out_get, blk_get, dgm_get, file_get, dgm_all, blk_all, src_all, port_all, out_all, file_all, set_geta, set_geta0, set_seta, gT, List.set_cons_zero]
              refine hK44 _ _ ?_; try clear hK44 K44
              conv => enter [5]; simp only [setL_cons, setL_nil, List.set_cons_zero, List.set_cons_succ, upd_none, upd_at]
              refine AW.regl false [2, 3] (by rfl) fun K45 hK45 => ?_ -- region 31
              simp only [go_sem, Nat.reduceAdd, Nat.reduceEqDiff, Nat.reduceLeDiff, true_and, List.length_map, len_row, one_row, List.drop_zero, blk_len, dgm_len, port_len, out_len, src_len, file_len, src_get, port_get, out_get, blk_get, dgm_get, file_get, dgm_all, blk_all, src_all, port_all, out_all, file_all, set_geta, set_geta0, set_seta]
              refine hK45 _ _ ?_; try clear hK45 K45
              conv => enter [5]; simp only [setL_cons, setL_nil, List.set_cons_zero, List.set_cons_succ]
              exact AW.ret ⟨.inr rfl, _, rfl, ⟨by simp only [List.length_set]; omega, fun j hj => by rw [get_set (by omega), get_set (by omega)]; exact hT.pre j hj⟩, .inr ⟨hch, rfl, ⟨N, qs, ords, dg, by rw [List.getElem?_set_self (by rw [List.length_set]; omega)]; rfl, by rw [get_set (by omega), get_set (by omega)]; exact hT.nm, hT.ns, by rw [get_set (by omega), get_set (by omega)]; exact hT.ty, hT.ql, by rw [get_set (by omega), get_set (by omega)]; exact hT.or, hT.ol, hdg, fun j q d hj hdj => by
                have h9 := hT.qa q (List.mem_of_getElem? hj)
                obtain ⟨M, o, g1, g2⟩ := hT.old j q d (by rw [← hT.ql]; exact (List.getElem?_eq_some_iff.1 hj).1) hj hdj
                exact ⟨M, o, by rw [get_set (by omega), get_set (by omega)]; exact g1, g2⟩⟩⟩⟩
end Fl
end Go.Proofs.Tryd
/-! Flow: the chapter's examples. -/
namespace Go.Proofs.Tryd
set_option linter.unusedSimpArgs false
set_option linter.unusedVariables false
open Go Go.Proofs.Ev
namespace Fl
variable {w : AV} {G : List (Nat × List AV)}
def awSrc (l : List Src) : Blk := ⟨3, 11, 0, 0, 0, 0, false, l⟩
def awLate : Blk := ⟨4, 0, 0, 0, 0, 0, false, [⟨0, 0⟩]⟩
def awD (bs : List Blk) : Dgm := ⟨⟨#[102]⟩, false, [⟨⟨#[97]⟩, 0⟩], false, [⟨⟨⟨#[98]⟩, 0⟩, ⟨0, 0⟩⟩], false, bs⟩
def awA : FileM := ⟨false, [awD [awSrc [⟨-1, 0⟩, ⟨0, 0⟩]]]⟩
def awB : FileM := ⟨false, [awD [awSrc [⟨-1, 0⟩, ⟨1, 0⟩], awLate]]⟩
theorem chkA : chkC awA = 9 := by kernel_rfl
theorem chkB : chkC awB = 0 := by kernel_rfl
theorem aw_ok {bs : List Blk} (h1 : bs.length ≤ 2) (h2 : ∀ b ∈ bs, b.src.length ≤ 2) : (awD bs).ok ∧ SzD (awD bs) := by
  refine ⟨⟨by rw [maxLen_eq]; show 1 ≤ _; decide, ⟨by rw [maxLen_eq]; show 1 ≤ _; decide, fun p hp => ?_⟩, ⟨by rw [maxLen_eq]; show 1 ≤ _; decide, fun p hp => ?_⟩, ?_, fun b hb => ?_⟩, ⟨by show 1 ≤ 2000; decide, by show 1 ≤ 2000; decide, ?_, fun b hb => ?_⟩⟩
  · rw [List.mem_singleton.1 hp, maxLen_eq]; decide
  · rw [List.mem_singleton.1 hp, maxLen_eq]; decide
  · rw [maxLen_eq]; show bs.length ≤ _; omega
  · have := h2 b hb; show b.src.length ≤ maxLen; rw [maxLen_eq]; omega
  · show bs.length ≤ 2000; omega
  · have := h2 b hb; omega
theorem fok {f : FileM} (d : Dgm) (hf : f.ds = [d]) (h : d.ok ∧ SzD d) : f.ok ∧ f.ds.length ≤ 2000 ∧ ∀ d ∈ f.ds, SzD d := by
  rw [FileM.ok, hf]
  refine ⟨⟨by rw [maxLen_eq]; show 1 ≤ _; decide, fun e he => ?_⟩, by show 1 ≤ 2000; decide, fun e he => ?_⟩
  · rw [List.mem_singleton.1 he]; exact h.1
  · rw [List.mem_singleton.1 he]; exact h.2
theorem pre_app {σ σ' : Sto} (h : σ.length ≤ σ'.length ∧ ∀ j, j < σ.length → σ'[j]? = σ[j]?) : ∃ τ, σ' = σ ++ τ := by
  refine ⟨σ'.drop σ.length, ?_⟩
  have : σ'.take σ.length = σ := by
    apply List.ext_getElem?
    intro j
    rw [List.getElem?_take]
    split
    · rename_i hj
      exact h.2 j hj
    · rename_i hj
      rw [List.getElem?_eq_none (by omega)]
  conv => lhs; rw [← List.take_append_drop σ.length σ', this]
theorem awA_calls (hΓ : A.Words (GK w G)) (σ : Sto) : ACalls prog (GK w G) 7 [awA.enc] σ (fun v σ' => v = .tup [.val (.pointer none), i64 9] ∧ ∃ τ, σ' = σ ++ τ) := by
  obtain ⟨h1, h2, h3⟩ := fok (f := awA) _ rfl (aw_ok (by decide) (by simp [awSrc]))
  refine (check_calls hΓ awA h1 h2 h3 (fun h d hd => good_of h hd) σ).mono ?_
  rintro v σ' ⟨hp, ⟨_, rfl⟩ | ⟨h0, _⟩⟩
  · rw [chkA]; exact ⟨rfl, pre_app hp⟩
  · rw [chkA] at h0; cases h0
theorem awB_calls (hΓ : A.Words (GK w G)) (σ : Sto) : ACalls prog (GK w G) 7 [awB.enc] σ (fun v σ' => v = .tup [.ref (σ.length + 4) 0, i64 0] ∧ ∃ τ, σ' = σ ++ τ) := by
  obtain ⟨h1, h2, h3⟩ := fok (f := awB) _ rfl (aw_ok (by decide) (by simp [awSrc, awLate]))
  refine (check_calls hΓ awB h1 h2 h3 (fun h d hd => good_of h hd) σ).mono ?_
  rintro v σ' ⟨hp, ⟨h0, _⟩ | ⟨_, rfl, _⟩⟩
  · rw [chkB] at h0; exact absurd rfl h0
  · exact ⟨rfl, pre_app hp⟩
theorem row2_30 (σ : Sto) (u v : AV) (h1 : u.cells.length = 2) (h2 : u.cells.all AV.one = true) (h3 : v.cells.length = 2) (h4 : v.cells.all AV.one = true) : aRow prog false σ 30 2 [(0, u), (1, v)] = some (.sl 2 [u, v], σ) := by
  exact aRow_sl (by kernel_rfl) (by decide) (row30 (by decide) (by decide) rfl (by intro p hp; simp only [List.mem_cons, List.not_mem_nil, or_false] at hp; rcases hp with rfl | rfl; exact ⟨h1, h2⟩; exact ⟨h3, h4⟩)) σ
theorem row2_33 (σ : Sto) (u v : AV) (h1 : u.cells.length = 7) (h2 : u.cells.all AV.one = true) (h3 : v.cells.length = 7) (h4 : v.cells.all AV.one = true) : aRow prog false σ 33 2 [(0, u), (1, v)] = some (.sl 7 [u, v], σ) := by
  exact aRow_sl (by kernel_rfl) (by decide) (row33 (by decide) (by decide) rfl (by intro p hp; simp only [List.mem_cons, List.not_mem_nil, or_false] at hp; rcases hp with rfl | rfl; exact ⟨h1, h2⟩; exact ⟨h3, h4⟩)) σ
theorem ofC_ptr : ofConst (.pointer none) = .val (.pointer none) := rfl
end Fl
end Go.Proofs.Tryd
/-! Flow: files that are all of one type; four shapes that may have too much. -/
namespace Go.Proofs.Tryd
set_option linter.unusedSimpArgs false
set_option linter.unusedVariables false
open Go Go.Proofs.Ev
namespace Fl
/-! An order is found where nothing hangs on itself. -/
theorem rdy_least {R : Nat → Nat → Bool} {n : Nat} (rk : Nat → Nat) (hR : ∀ i k, i < n → k < n → R i k = true → rk k < rk i) (d : List Bool) : ∀ (m i : Nat), rk i ≤ m → i < n → d.getD i false = false → ∃ j, j < n ∧ rdy R n d j = true := by
  intro m
  induction m with
  | zero =>
    intro i hm hi hd
    refine ⟨i, hi, ?_⟩
    unfold rdy
    rw [hd, Bool.not_false, Bool.true_and, List.all_eq_true]
    intro k hk
    cases h : R i k with
    | false => simp
    | true => have := hR i k hi (List.mem_range.1 hk) h; omega
  | succ m ih =>
    intro i hm hi hd
    by_cases g : rdy R n d i = true
    · exact ⟨i, hi, g⟩
    · unfold rdy at g
      rw [hd, Bool.not_false, Bool.true_and, List.all_eq_true] at g
      simp only [List.mem_range, Bool.or_eq_true, Bool.not_eq_true'] at g
      have : ∃ k, k < n ∧ d.getD k false = false ∧ R i k = true := by
        refine Classical.byContradiction fun hn => g fun k hk => ?_
        cases h1 : d.getD k false with
        | true => exact .inl rfl
        | false =>
          cases h2 : R i k with
          | true => exact absurd ⟨k, hk, h1, h2⟩ hn
          | false => exact .inr rfl
      obtain ⟨k, hk, h1, h2⟩ := this
      exact ih k (by have := hR i k hi hk h2; omega) hk h1
theorem ordGo_some {R : Nat → Nat → Bool} {n : Nat} (rk : Nat → Nat) (hR : ∀ i k, i < n → k < n → R i k = true → rk k < rk i) : ∀ (m : Nat) (d : List Bool) (out : List Nat), d.length = n → d.count false = m → (ordGo R n m d out).isSome = true
  | 0, _, _, _, _ => rfl
  | m + 1, d, out, hl, hc => by
    have hm : false ∈ d := List.count_pos_iff.1 (by omega)
    obtain ⟨i, hi, he⟩ := List.getElem_of_mem hm
    obtain ⟨j, hj, hr⟩ := rdy_least rk hR d (rk i) i (Nat.le_refl _) (by omega) (by rw [List.getD_eq_getElem?_getD, List.getElem?_eq_getElem hi, he]; rfl)
    unfold ordGo
    cases hx : nxt R n d with
    | none =>
      have := List.find?_eq_none.1 hx j (List.mem_range.2 hj)
      exact absurd hr this
    | some k =>
      obtain ⟨hk, hrk⟩ := nxt_lt hx
      have hkd : d[k]'(by omega) = false := by
        unfold rdy at hrk
        rw [Bool.and_eq_true, Bool.not_eq_true', List.getD_eq_getElem?_getD, List.getElem?_eq_getElem (by omega)] at hrk
        exact hrk.1
      refine ordGo_some rk hR m _ _ (by rw [List.length_set]; exact hl) ?_
      rw [List.count_set (by omega), hkd, hc]
      simp
theorem ord_some {R : Nat → Nat → Bool} {n : Nat} (rk : Nat → Nat) (hR : ∀ i k, i < n → k < n → R i k = true → rk k < rk i) : (ord R n).isSome = true :=
  ordGo_some rk hR n _ _ (by simp) (by simp)
/-! Files whose types are all the first. -/
def Z (M : MapM) : Prop := ∀ q, (look M q).getD 0 = 0
theorem Z.lk {M : MapM} (h : Z M) (s : Src) : lkM M s = 0 := h _
theorem Z.upd {M : MapM} (h : Z M) (p : Int × Int) : Z (upd M p 0) := fun q => by
  rw [look_upd]
  split
  · rfl
  · exact h q
theorem Z.putU (key : Nat → Int × Int) : ∀ (l : List Int) {M : MapM} (j : Nat), (∀ v ∈ l, v = 0) → Z M → Z (putU key M l j)
  | [], _, _, _, h => h
  | v :: l, M, j, hl, h => by
    have hv : v = 0 := hl v (by simp)
    subst hv
    exact Z.putU key l (j + 1) (fun x hx => hl x (by simp [hx])) (h.upd _)
structure FlatD (d : Dgm) : Prop where
  ins : ∀ p ∈ d.ins, p.type = 0
  outs : ∀ o ∈ d.outs, o.port.type = 0
  blk : ∀ b ∈ d.blocks, b.kind = 0 ∨ b.kind = 7
theorem Z.delU {M : MapM} (h : Z M) : ∀ (l : List Blk) (j : Nat), (∀ b ∈ l, b.kind = 0 ∨ b.kind = 7) → delU M l j = M
  | [], _, _ => rfl
  | b :: l, j, hl => by
    have h4 : ¬ (b.kind == 4) = true := by
      rcases hl b (by simp) with e | e <;> rw [e] <;> decide
    rw [Fl.delU, if_neg h4]
    exact Z.delU h l (j + 1) fun x hx => hl x (by simp [hx])
theorem Z.start {d : Dgm} (hd : FlatD d) : Z (startM d []) := by
  have hp : Z (Fl.putU (fun j => (-1, (j : Int))) [] (d.ins.map (·.type)) 0) := Z.putU _ _ _ (fun v hv => by
    obtain ⟨p, hp, rfl⟩ := List.mem_map.1 hv
    exact hd.ins p hp) (fun q => rfl)
  unfold startM
  rw [Z.delU hp _ _ hd.blk]
  exact hp
theorem eq_zeros : ∀ {l m : List Int}, (∀ x ∈ l, x = 0) → (∀ x ∈ m, x = 0) → l.length = m.length → l = m
  | [], [], _, _, _ => rfl
  | [], _ :: _, _, _, h => by simp at h
  | _ :: _, [], _, _, h => by simp at h
  | a :: l, b :: m, h1, h2, h => by
    have ha : a = 0 := h1 a (by simp)
    have hb : b = 0 := h2 b (by simp)
    have hl : l = m := eq_zeros (fun x hx => h1 x (by simp [hx])) (fun x hx => h2 x (by simp [hx])) (by simpa using h)
    rw [ha, hb, hl]
theorem walk_flat {f : FileM} (hf : ∀ e ∈ f.ds, FlatD e) {d : Dgm} (hd : FlatD d) (har : ∀ b ∈ d.blocks, arB f b = false) : ∀ (o : List Nat) {M : MapM}, (∀ k ∈ o, k < d.blocks.length) → Z M → ∃ M', walkM f d M o = some M' ∧ Z M'
  | [], M, _, h => ⟨M, rfl, h⟩
  | k :: o, M, ho, h => by
    have hk := ho k (by simp)
    have hm : d.blocks[k] ∈ d.blocks := List.getElem_mem hk
    have hgo : ∀ {M' : MapM}, Z M' → ∃ M'', walkM f d M' o = some M'' ∧ Z M'' := fun h' => walk_flat hf hd har o (fun x hx => ho x (by simp [hx])) h'
    simp only [walkM, List.getElem?_eq_getElem hk]
    rcases hd.blk _ hm with e | e
    · have h7 : ¬ (d.blocks[k].kind == 7) = true := by rw [e]; decide
      have hr : resM d.blocks[k] (fromT M d.blocks[k]) = (0, true) := by
        simp only [resM, e]
        rfl
      simp only [stepM, if_neg h7, hr, if_true, Option.bind_some]
      exact hgo (h.upd _)
    · have h7 : (d.blocks[k].kind == 7) = true := by rw [e]; decide
      have hl : d.blocks[k].src.length = (insT f d.blocks[k]).length := by
        have := har _ hm
        rw [arB, h7, Bool.true_and, decide_eq_false_iff_not, Classical.not_not] at this
        exact this
      have hi : d.blocks[k].src.map (lkM M) = insT f d.blocks[k] := eq_zeros (fun x hx => by
        obtain ⟨s, _, rfl⟩ := List.mem_map.1 hx
        exact h.lk s) (fun x hx => by
        unfold insT at hx
        split at hx
        · rename_i e' he
          obtain ⟨p, hp, rfl⟩ := List.mem_map.1 hx
          exact (hf e' (List.mem_of_getElem? he)).ins p hp
        · cases hx) (by rw [List.length_map]; exact hl)
      simp only [stepM, if_pos h7, subR, if_pos hi, if_true, Option.bind_some]
      refine hgo (Z.putU _ _ _ (fun v hv => ?_) h)
      unfold outT at hv
      split at hv
      · rename_i e' he
        obtain ⟨p, hp, rfl⟩ := List.mem_map.1 hv
        exact (hf e' (List.mem_of_getElem? he)).outs p hp
      · cases hv
theorem typed_flat {f : FileM} (hf : ∀ e ∈ f.ds, FlatD e) {d : Dgm} (hd : FlatD d) (har : ∀ b ∈ d.blocks, arB f b = false) {o : List Nat} (ho : ∀ k ∈ o, k < d.blocks.length) : typedB f d o = true := by
  obtain ⟨M, h1, h2⟩ := walk_flat hf hd har o ho (Z.start hd)
  unfold typedB
  rw [h1]
  simp only [endB, Bool.and_eq_true, List.all_eq_true, Bool.not_eq_true', List.any_eq_false]
  refine ⟨fun b hb => ?_, fun p hp => ?_⟩
  · rcases hd.blk b hb with e | e <;> rw [e] <;> rfl
  · rw [h2.lk, hd.outs p hp]; decide
theorem dia_flat {f : FileM} (hf : ∀ e ∈ f.ds, FlatD e) {d : Dgm} {i : Nat} (hd : FlatD d) (hn : namesM f i d = true) (ho : ¬ d.outs.length = 0) (har : rngB f d = true → ∀ b ∈ d.blocks, arB f b = false) (hh : ∀ i k, i < d.blocks.length → k < d.blocks.length → lmat (hangL d) i k = true → k < i) : diaC f i d = if rngB f d = true then 0 else 4 := by
  unfold diaC
  rw [if_neg (by rw [hn]; decide), if_neg ho]
  cases hr : rngB f d with
  | false => rfl
  | true =>
    have ha := har hr
    have h8 : ¬ d.blocks.any (arB f) = true := by
      rw [List.any_eq_true]
      rintro ⟨b, hb, h⟩
      rw [ha b hb] at h
      cases h
    rw [if_neg (by decide), if_neg h8, if_pos rfl]
    have hs := ord_some (R := lmat (hangL d)) (n := d.blocks.length) id hh
    cases hx : ord (lmat (hangL d)) d.blocks.length with
    | none => rw [hx] at hs; cases hs
    | some o =>
      show (if typedB f d o = true then (0 : Int) else 7) = 0
      rw [if_pos (typed_flat hf hd ha (ord_ok hx).2.1)]
/-- A file that is right but may have too much. -/
structure FlatF (f : FileM) : Prop where
  right : f.right = true
  flat : ∀ d ∈ f.ds, FlatD d
  outs : ∀ d ∈ f.ds, ¬ d.outs.length = 0
  nms : ∀ i d, f.ds[i]? = some d → namesM f i d = true
  ar : ∀ d ∈ f.ds, rngB f d = true → ∀ b ∈ d.blocks, arB f b = false
  hang : ∀ d ∈ f.ds, ∀ i k, i < d.blocks.length → k < d.blocks.length → lmat (hangL d) i k = true → k < i
  subs : ∃ rk : Nat → Nat, ∀ i k, i < f.ds.length → k < f.ds.length → lmat (subsL f) i k = true → rk k < rk i
theorem chk_flat {f : FileM} (h : FlatF f) : chkC f = if ∀ d ∈ f.ds, rngB f d = true then 0 else 4 := by
  have hd : ∀ i (hi : i < f.ds.length), diaCAt f i = if rngB f f.ds[i] = true then 0 else 4 := fun i hi => by
    have hm : f.ds[i] ∈ f.ds := List.getElem_mem hi
    rw [diaCAt_eq (List.getElem?_eq_getElem hi)]
    exact dia_flat h.flat (h.flat _ hm) (h.nms i _ (List.getElem?_eq_getElem hi)) (h.outs _ hm) (h.ar _ hm) (h.hang _ hm)
  by_cases g : ∀ d ∈ f.ds, rngB f d = true
  · obtain ⟨rk, hrk⟩ := h.subs
    rw [if_pos g, chkC_end h.right fun j hj => by rw [hd j hj, if_pos (g _ (List.getElem_mem hj))], if_pos (ord_some rk hrk)]
  · rw [if_neg g]
    unfold chkC
    rw [if_pos h.right]
    cases hx : (List.range f.ds.length).find? (fun i => diaCAt f i != 0) with
    | none =>
      refine absurd (fun d hm => ?_) g
      obtain ⟨i, hi, rfl⟩ := List.getElem_of_mem hm
      have := List.find?_eq_none.1 hx i (List.mem_range.2 hi)
      rw [hd i hi] at this
      by_cases e : rngB f f.ds[i] = true
      · exact e
      · rw [if_neg e] at this
        exact absurd (by decide) this
    | some i =>
      have h1 := List.find?_some hx
      have h2 := List.mem_range.1 (List.mem_of_find?_eq_some hx)
      show diaCAt f i = 4
      rw [hd i h2] at h1 ⊢
      by_cases e : rngB f f.ds[i] = true
      · rw [if_pos e] at h1; exact absurd h1 (by decide)
      · rw [if_neg e]
end Fl
end Go.Proofs.Tryd
/-! Flow: four shapes of files that may have too much. -/
namespace Go.Proofs.Tryd
set_option linter.unusedSimpArgs false
set_option linter.unusedVariables false
open Go Go.Proofs.Ev
namespace Fl
/-! A name of a number. -/
def digB (i k : Nat) : UInt8 := UInt8.ofNat (48 + (i >>> k) % 2)
def nmL (i m : Nat) : List UInt8 := 120 :: (List.range m).map (digB i)
def nmS (i m : Nat) : ByteArray := ⟨(nmL i m).toArray⟩
def nmB (i : Nat) : ByteArray := nmS i 10
theorem digB_nat (i k : Nat) : (digB i k).toNat = 48 + (i >>> k) % 2 := by
  unfold digB
  rw [UInt8.toNat_ofNat']
  omega
theorem nmB_inj {i j : Nat} (hi : i < 1024) (hj : j < 1024) (h : nmB i = nmB j) : i = j := by
  have h1 : nmL i 10 = nmL j 10 := by
    have := congrArg (fun b : ByteArray => b.data.toList) h
    simpa only [nmB, nmS] using this
  have hk : ∀ k, k < 10 → (i >>> k) % 2 = (j >>> k) % 2 := fun k hk => by
    have h2 := congrArg (fun l : List UInt8 => l[k + 1]?) h1
    simp only [nmL, List.getElem?_cons_succ, List.getElem?_map, List.getElem?_range hk, Option.map_some, Option.some.injEq] at h2
    have h3 := congrArg UInt8.toNat h2
    rw [digB_nat, digB_nat] at h3
    omega
  have k0 := hk 0 (by omega)
  have k1 := hk 1 (by omega)
  have k2 := hk 2 (by omega)
  have k3 := hk 3 (by omega)
  have k4 := hk 4 (by omega)
  have k5 := hk 5 (by omega)
  have k6 := hk 6 (by omega)
  have k7 := hk 7 (by omega)
  have k8 := hk 8 (by omega)
  have k9 := hk 9 (by omega)
  simp only [Nat.shiftRight_eq_div_pow, Nat.reducePow, Nat.div_one] at k0 k1 k2 k3 k4 k5 k6 k7 k8 k9
  clear hk h1 h
  omega
theorem nmB_size (i : Nat) : (nmB i).size = 11 := by
  show (nmL i 10).toArray.size = 11
  simp [nmL]
theorem words_11 : (A.words.all fun s => s.size != 11) = true := by decide
theorem okFrom_dig : ∀ (l : List UInt8) (i : Nat), 0 < i → (∀ c ∈ l, A.digit c = true) → A.okFrom i l = true
  | [], _, _, _ => rfl
  | c :: l, i, h, hl => by
    rw [A.okFrom, hl c (by simp), okFrom_dig l (i + 1) (by omega) fun x hx => hl x (by simp [hx])]
    simp [h]
theorem nmB_name (i : Nat) : A.nameM (nmB i) = true := by
  have h1 : ¬ nmB i = ⟨#[]⟩ := fun h => by
    have := congrArg ByteArray.size h
    rw [nmB_size] at this
    cases this
  have h2 : A.wordM (nmB i) = false := by
    cases h : A.wordM (nmB i) with
    | false => rfl
    | true =>
      have := List.all_eq_true.1 words_11 _ ((findS_iff _ _).1 h)
      rw [nmB_size] at this
      cases this
  have h3 : A.okFrom 0 (nmB i).data.toList = true := by
    show A.okFrom 0 (nmL i 10) = true
    rw [nmL, A.okFrom, okFrom_dig _ 1 (by decide) fun c hc => ?_]
    · decide
    · obtain ⟨k, _, rfl⟩ := List.mem_map.1 hc
      unfold A.digit
      rw [digB_nat, Bool.and_eq_true, decide_eq_true_eq, decide_eq_true_eq]
      omega
  unfold A.nameM
  rw [h2, h3, nmB_size, decide_eq_false h1]
  decide
theorem name_small {s : ByteArray} (h : A.nameM s = true) : s.size ≤ 60 := by
  unfold A.nameM at h
  simp only [Bool.and_eq_true, Bool.not_eq_true', Bool.or_eq_false_iff, decide_eq_false_iff_not] at h
  omega
/-! The shapes. -/
def bN : ByteArray := ⟨#[98]⟩
def fN : ByteArray := ⟨#[102]⟩
def gN : ByteArray := ⟨#[103]⟩
def blk0 : Blk := ⟨0, 0, 0, 0, 0, 0, true, []⟩
def subB (m : Nat) : Blk := ⟨7, 0, 1, 0, 0, 0, false, List.replicate m ⟨0, 0⟩⟩
def outB : OutM := ⟨⟨bN, 0⟩, ⟨0, 0⟩⟩
def dg (nm : ByteArray) (ins : List PortM) (bl : List Blk) : Dgm := ⟨nm, true, ins, false, [outB], false, bl⟩
def insN (m : Nat) : List PortM := (List.range m).map fun i => ⟨nmB i, 0⟩
structure ShD (ds : List Dgm) (i : Nat) (d : Dgm) : Prop where
  nm : A.nameM d.name = true
  at_ : findD ds d.name = some i
  ins : ∀ p ∈ d.ins, p.type = 0 ∧ A.nameM p.name = true
  nd : (d.ins.map (·.name) ++ [bN]).Nodup
  il : d.ins.length ≤ 2000
  outs : d.outs = [outB]
  b0 : d.blocks[0]? = some blk0
  bl : d.blocks.length ≤ 2000
  bs : ∀ b ∈ d.blocks, b = blk0 ∨ ∃ m, b = subB m ∧ m ≤ 2000 ∧ i = 0 ∧ ds.length = 2
theorem fN_name : A.nameM fN = true := by decide
theorem gN_name : A.nameM gN = true := by decide
variable {ds : List Dgm}
theorem sh_source {i : Nat} {d : Dgm} (h : ShD ds i d) : FileM.source ⟨false, ds⟩ d ⟨0, 0⟩ = true := by
  have hl : 0 < d.blocks.length := (List.getElem?_eq_some_iff.1 h.b0).1
  unfold FileM.source
  rw [if_pos (by rfl)]
  have : ¬ (decide ((0 : Int) < 0) || decide ((0 : Int) ≥ (d.blocks.length : Int))) = true := by
    simp only [Bool.or_eq_true, decide_eq_true_eq]
    omega
  rw [if_neg this]
  show (match d.blocks[0]? with | some b => _ | none => _) = true
  rw [h.b0]
  rfl
theorem sh_res0 : FileM.results ⟨false, ds⟩ blk0 = 1 := rfl
theorem sh_resS {m : Nat} (h2 : ds.length = 2) (h : ∀ i d, ds[i]? = some d → ShD ds i d) : FileM.results ⟨false, ds⟩ (subB m) = 1 := by
  have h1 : 1 < ds.length := by omega
  show (if (decide ((7 : Int) < 0) || decide ((7 : Int) > 7)) = true then (0 : Int) else if decide ((7 : Int) < 7) = true then 1 else if (decide ((1 : Int) < 0) || decide ((1 : Int) ≥ (ds.length : Int))) = true then 0 else match ds[1]? with | some d => (d.outs.length : Int) | none => 0) = 1
  rw [if_neg (by decide), if_neg (by decide), if_neg (by rw [h2]; decide)]
  rw [List.getElem?_eq_getElem h1]
  show ((ds[1]).outs.length : Int) = 1
  rw [(h 1 _ (List.getElem?_eq_getElem h1)).outs]
  rfl
theorem sh_block {i : Nat} {d : Dgm} (h : ShD ds i d) {b : Blk} (hb : b ∈ d.blocks) : FileM.block ⟨false, ds⟩ d b = true := by
  rcases h.bs b hb with rfl | ⟨m, rfl, hm, _, h2⟩
  · rfl
  · have e : FileM.block ⟨false, ds⟩ d (subB m) = (((((((decide ((0 : Int) ≥ 0) && decide ((0 : Int) ≤ 0)) && decide ((0 : Int) ≥ 0)) && decide ((0 : Int) ≤ 0)) && (((1 : Int) == 0) || ((7 : Int) == 7))) && decide ((1 : Int) ≥ 0)) && decide ((1 : Int) < (ds.length : Int))) && ((((List.replicate m (⟨0, 0⟩ : Src)).length : Int) == -1) || (((-1 : Int) == -1) && decide (((List.replicate m (⟨0, 0⟩ : Src)).length : Int) ≤ 16777215))) && !((List.replicate m (⟨0, 0⟩ : Src)).any fun s => !FileM.source ⟨false, ds⟩ d s)) := rfl
    have hs : ((List.replicate m (⟨0, 0⟩ : Src)).any fun s => !FileM.source ⟨false, ds⟩ d s) = false := by
      rw [List.any_eq_false]
      intro s hs
      rw [(List.mem_replicate.1 hs).2, sh_source h]
      decide
    rw [e, hs, h2, List.length_replicate, decide_eq_true (by omega : (m : Int) ≤ 16777215)]
    simp
theorem sh_diagram {i : Nat} {d : Dgm} (h : ShD ds i d) : FileM.diagram ⟨false, ds⟩ d = true := by
  have h1 := h.il
  have h2 := h.bl
  have h3 := name_small h.nm
  have h4 : d.outs.length = 1 := by rw [h.outs]; rfl
  have hi : (d.ins.any fun p => !p.right) = false := by
    rw [List.any_eq_false]
    intro p hp
    obtain ⟨e, en⟩ := h.ins p hp
    have := name_small en
    unfold PortM.right
    rw [e, decide_eq_true (by omega : (p.name.size : Int) ≤ 65535)]
    decide
  have ho : (d.outs.any fun o => (!o.port.right || !FileM.source ⟨false, ds⟩ d o.src)) = false := by
    rw [h.outs, List.any_cons, List.any_nil, Bool.or_false]
    show (!outB.port.right || !FileM.source ⟨false, ds⟩ d ⟨0, 0⟩) = false
    rw [sh_source h]
    decide
  have hb : (d.blocks.any fun b => !FileM.block ⟨false, ds⟩ d b) = false := by
    rw [List.any_eq_false]
    intro b hb
    rw [sh_block h hb]
    decide
  unfold FileM.diagram
  show ((((((decide ((d.ins.length : Int) ≤ 16777215) && decide ((d.outs.length : Int) ≤ 16777215)) && decide ((d.blocks.length : Int) ≤ 16777215)) && decide ((d.name.size : Int) ≤ 65535)) && _) && _) && _) = true
  have e1 : (d.ins.length : Int) ≤ 16777215 := by omega
  have e2 : (d.outs.length : Int) ≤ 16777215 := by rw [h4]; decide
  have e3 : (d.blocks.length : Int) ≤ 16777215 := by omega
  have e4 : (d.name.size : Int) ≤ 65535 := by omega
  rw [hi, ho, hb, decide_eq_true e1, decide_eq_true e2, decide_eq_true e3, decide_eq_true e4]
  rfl
theorem mem_at {d : Dgm} (hd : d ∈ ds) : ∃ i : Nat, ds[i]? = some d := List.getElem?_of_mem hd
theorem sh_rng {i : Nat} {d : Dgm} (hs : ∀ i d, ds[i]? = some d → ShD ds i d) (h : ShD ds i d) : rngB ⟨false, ds⟩ d = true ↔ (∀ b ∈ d.blocks, b.src.length ≤ 1000) ∧ ds.length ≤ 1000 ∧ d.ins.length ≤ 1000 ∧ d.blocks.length ≤ 999 := by
  have hsum : sumR ⟨false, ds⟩ d.blocks = (d.blocks.length : Int) := by
    have key : ∀ l : List Blk, (∀ b ∈ l, FileM.results ⟨false, ds⟩ b = 1) → sumR ⟨false, ds⟩ l = (l.length : Int) := by
      intro l
      induction l with
      | nil => intro _; rfl
      | cons b l ih =>
        intro hl
        have := ih fun x hx => hl x (by simp [hx])
        unfold sumR at this ⊢
        rw [List.map_cons, List.sum_cons, this, hl b (by simp), List.length_cons]
        omega
    refine key _ fun b hb => ?_
    rcases h.bs b hb with rfl | ⟨m, rfl, _, _, h2⟩
    · exact sh_res0
    · exact sh_resS h2 hs
  have ho : d.outs.length = 1 := by rw [h.outs]; rfl
  unfold rngB
  rw [hsum, ho]
  simp only [Bool.and_eq_true, List.all_eq_true, decide_eq_true_eq]
  constructor
  · rintro ⟨h1, ⟨⟨h2, h3⟩, _⟩, h4⟩
    exact ⟨h1, h2, h3, by omega⟩
  · rintro ⟨h1, h2, h3, h4⟩
    exact ⟨h1, ⟨⟨h2, h3⟩, by omega⟩, by omega⟩
theorem sh_flat (hn : ds.length ≤ 2000) (hs : ∀ i d, ds[i]? = some d → ShD ds i d) (har : ∀ d ∈ ds, ∀ m, subB m ∈ d.blocks → m ≤ 1000 → m = (insT ⟨false, ds⟩ (subB m)).length) : FlatF ⟨false, ds⟩ where
  right := by
    have : (ds.any fun d => !FileM.diagram ⟨false, ds⟩ d) = false := by
      rw [List.any_eq_false]
      intro d hd
      obtain ⟨i, hi⟩ := mem_at hd
      rw [sh_diagram (hs i d hi)]
      decide
    unfold FileM.right
    show (decide ((ds.length : Int) ≤ 16777215) && !(ds.any fun d => !FileM.diagram ⟨false, ds⟩ d)) = true
    rw [this, decide_eq_true (by omega)]
    rfl
  flat := fun d hd => by
    obtain ⟨i, hi⟩ := mem_at hd
    have h := hs i d hi
    refine ⟨fun p hp => (h.ins p hp).1, fun o ho => ?_, fun b hb => ?_⟩
    · rw [h.outs, List.mem_singleton] at ho; rw [ho]; rfl
    · rcases h.bs b hb with rfl | ⟨m, rfl, _⟩
      · exact .inl rfl
      · exact .inr rfl
  outs := fun d hd => by
    obtain ⟨i, hi⟩ := mem_at hd
    rw [(hs i d hi).outs]
    decide
  nms := fun i d hi => by
    have h := hs i d hi
    have hp : portsN d = d.ins.map (·.name) ++ [bN] := by rw [portsN, h.outs]; rfl
    unfold namesM
    have h1 : (portsN d).all A.nameM = true := by
      rw [hp, List.all_append, Bool.and_eq_true, List.all_eq_true]
      refine ⟨fun s hs => ?_, by decide⟩
      obtain ⟨p, hp, rfl⟩ := List.mem_map.1 hs
      exact (h.ins p hp).2
    rw [h1, hp, decide_eq_true h.nd, h.nm]
    show decide (findD ds d.name = some i) = true
    rw [h.at_]
    exact decide_eq_true rfl
  ar := fun d hd hr b hb => by
    obtain ⟨i, hi⟩ := mem_at hd
    have h := hs i d hi
    obtain ⟨h1, _⟩ := (sh_rng hs h).1 hr
    rcases h.bs b hb with rfl | ⟨m, rfl, _⟩
    · rfl
    · have h2 := h1 _ hb
      have h3 : (subB m).src.length = m := List.length_replicate
      rw [h3] at h2
      unfold arB
      rw [h3, ← har d hd m hb h2]
      simp
  hang := fun d hd i k hi hk hl => by
    obtain ⟨j, hj⟩ := mem_at hd
    have h := hs j d hj
    rw [lmat, decide_eq_true_eq, List.getD_eq_getElem?_getD, hangL, List.getElem?_map, List.getElem?_eq_getElem hi, Option.map_some, Option.getD_some] at hl
    have hb := h.bs d.blocks[i] (List.getElem_mem hi)
    rcases hb with hb | ⟨m, hb, _⟩
    · rw [hb] at hl
      cases hl
    · rw [hb] at hl
      unfold hangB at hl
      obtain ⟨s, hs', rfl⟩ := List.mem_map.1 hl
      have := (List.mem_replicate.1 (List.mem_filter.1 hs').1).2
      rw [this]
      show (0 : Nat) < i
      refine Nat.pos_of_ne_zero fun e => ?_
      subst e
      have h0 := h.b0
      rw [List.getElem?_eq_getElem hi, hb] at h0
      have := congrArg (fun o : Option Blk => o.map (·.kind)) h0
      cases this
  subs := ⟨fun x => 2000 - x, fun i k hi hk hl => by
    rw [lmat, decide_eq_true_eq, List.getD_eq_getElem?_getD, subsL, List.getElem?_map, List.getElem?_eq_getElem hi, Option.map_some, Option.getD_some] at hl
    have hi' : i < ds.length := hi
    have h := hs i ds[i] (List.getElem?_eq_getElem hi')
    unfold subsB at hl
    obtain ⟨b, hb, rfl⟩ := List.mem_map.1 hl
    obtain ⟨hb, hk7⟩ := List.mem_filter.1 hb
    rcases h.bs b hb with rfl | ⟨m, rfl, _, rfl, _⟩
    · cases hk7
    · show 2000 - 1 < 2000 - 0
      omega⟩
theorem sh_ok (hn : ds.length ≤ 2000) (hs : ∀ i d, ds[i]? = some d → ShD ds i d) : FileM.ok ⟨false, ds⟩ ∧ ∀ d ∈ ds, SzD d := by
  have hb : ∀ d ∈ ds, ∀ b ∈ d.blocks, b.src.length ≤ 2000 := fun d hd b hb => by
    obtain ⟨i, hi⟩ := mem_at hd
    rcases (hs i d hi).bs b hb with rfl | ⟨m, rfl, hm, _⟩
    · exact Nat.zero_le _
    · show (List.replicate m _).length ≤ 2000
      rw [List.length_replicate]; exact hm
  refine ⟨⟨by rw [maxLen_eq]; show ds.length ≤ _; omega, fun d hd => ?_⟩, fun d hd => ?_⟩
  · obtain ⟨i, hi⟩ := mem_at hd
    have h := hs i d hi
    have h1 := h.il
    have h2 := h.bl
    have h3 := name_small h.nm
    refine ⟨by rw [maxLen_eq]; omega, ⟨by rw [maxLen_eq]; omega, fun p hp => ?_⟩, ⟨by rw [h.outs, maxLen_eq]; decide, fun o ho => ?_⟩, by rw [maxLen_eq]; omega, fun b hb' => ?_⟩
    · have := name_small (h.ins p hp).2
      rw [maxLen_eq]; omega
    · rw [h.outs, List.mem_singleton] at ho
      rw [ho, maxLen_eq]; decide
    · have := hb d hd b hb'
      show b.src.length ≤ maxLen
      rw [maxLen_eq]; omega
  · obtain ⟨i, hi⟩ := mem_at hd
    have h := hs i d hi
    exact ⟨h.il, by rw [h.outs]; decide, h.bl, hb d hd⟩
theorem ins_nd {m : Nat} (hm : m ≤ 1024) : ((insN m).map (·.name) ++ [bN]).Nodup := by
  rw [List.nodup_append]
  refine ⟨?_, by simp, fun a ha b hb => ?_⟩
  · rw [insN, List.map_map, List.Nodup, List.pairwise_map]
    refine List.Pairwise.imp_of_mem ?_ (List.nodup_range (n := m))
    intro a b ha hb hne he
    exact hne (nmB_inj (by have := List.mem_range.1 ha; omega) (by have := List.mem_range.1 hb; omega) he)
  · rw [List.mem_singleton.1 hb]
    rintro rfl
    obtain ⟨p, hp, he⟩ := List.mem_map.1 ha
    obtain ⟨i, _, rfl⟩ := List.mem_map.1 hp
    have := congrArg ByteArray.size he
    rw [show (PortM.mk (nmB i) 0).name = nmB i from rfl, nmB_size] at this
    cases this
theorem ins_ok {m : Nat} : ∀ p ∈ insN m, p.type = 0 ∧ A.nameM p.name = true := fun p hp => by
  obtain ⟨i, _, rfl⟩ := List.mem_map.1 hp
  exact ⟨rfl, nmB_name i⟩
theorem ins_len (m : Nat) : (insN m).length = m := by simp [insN]
/-- What is asked of a shape. -/
structure ShC (ds : List Dgm) (ok : Bool) : Prop where
  n : ds.length ≤ 2000
  f : FileM.ok ⟨false, ds⟩
  sz : ∀ d ∈ ds, SzD d
  c : chkC ⟨false, ds⟩ = if ok = true then 0 else 4
theorem sh_of (hn : ds.length ≤ 2000) (hs : ∀ i d, ds[i]? = some d → ShD ds i d) (har : ∀ d ∈ ds, ∀ m, subB m ∈ d.blocks → m ≤ 1000 → m = (insT ⟨false, ds⟩ (subB m)).length) {ok : Bool} (hk : ok = true ↔ ∀ d ∈ ds, (∀ b ∈ d.blocks, b.src.length ≤ 1000) ∧ ds.length ≤ 1000 ∧ d.ins.length ≤ 1000 ∧ d.blocks.length ≤ 999) : ShC ds ok := by
  obtain ⟨h1, h2⟩ := sh_ok hn hs
  refine ⟨hn, h1, h2, ?_⟩
  rw [chk_flat (sh_flat hn hs har)]
  have : (∀ d ∈ (⟨false, ds⟩ : FileM).ds, rngB ⟨false, ds⟩ d = true) ↔ ok = true := by
    rw [hk]
    constructor
    · intro g d hd
      obtain ⟨i, hi⟩ := mem_at hd
      exact (sh_rng hs (hs i d hi)).1 (g d hd)
    · intro g d hd
      obtain ⟨i, hi⟩ := mem_at hd
      exact (sh_rng hs (hs i d hi)).2 (g d hd)
  by_cases e : ok = true
  · rw [if_pos e, if_pos (this.2 e)]
  · rw [if_neg e, if_neg fun g => e (this.1 g)]
def ds0 (m : Nat) : List Dgm := [dg fN [] (List.replicate m blk0)]
def ds1 (m : Nat) : List Dgm := [dg fN (insN m) [blk0]]
def nm2 (i : Nat) : ByteArray := if i = 0 then fN else nmB i
def ds2 (m : Nat) : List Dgm := (List.range m).map fun i => dg (nm2 i) [] [blk0]
def ds3 (m k : Nat) : List Dgm := [dg fN [] [blk0, subB m], dg gN (insN k) [blk0]]
theorem one_at {a d : Dgm} {i : Nat} (h : [a][i]? = some d) : i = 0 ∧ d = a := by
  cases i with
  | zero => exact ⟨rfl, (Option.some.inj h).symm⟩
  | succ i => simp at h
theorem sh0 {m : Nat} (h0 : 0 < m) (hm : m ≤ 2000) : ShC (ds0 m) (decide (m ≤ 999)) := by
  have hb : ∀ b ∈ List.replicate m blk0, b = blk0 := fun b hb => (List.mem_replicate.1 hb).2
  refine sh_of (by show 1 ≤ 2000; decide) (fun i d hi => ?_) (fun d hd k hk => ?_) ?_
  · obtain ⟨rfl, rfl⟩ := one_at hi
    exact ⟨fN_name, rfl, (fun p hp => by cases hp), by simp [dg], Nat.zero_le _, rfl, by show (List.replicate m blk0)[0]? = _; rw [List.getElem?_replicate, if_pos h0], by show (List.replicate m blk0).length ≤ 2000; rw [List.length_replicate]; exact hm, fun b hb' => .inl (hb b hb')⟩
  · rw [List.mem_singleton.1 hd] at hk
    have := congrArg (·.kind) (hb _ hk)
    cases this
  · rw [decide_eq_true_eq]
    constructor
    · intro h d hd
      rw [List.mem_singleton.1 hd]
      refine ⟨fun b hb' => ?_, by show 1 ≤ 1000; decide, by show 0 ≤ 1000; decide, by show (List.replicate m blk0).length ≤ 999; rw [List.length_replicate]; exact h⟩
      rw [hb b hb']
      decide
    · intro h
      have := (h _ (List.mem_singleton.2 rfl)).2.2.2
      have e : (List.replicate m blk0).length ≤ 999 := this
      rw [List.length_replicate] at e
      exact e
theorem sh1 {m : Nat} (hm : m ≤ 1024) : ShC (ds1 m) (decide (m ≤ 1000)) := by
  refine sh_of (by show 1 ≤ 2000; decide) (fun i d hi => ?_) (fun d hd k hk => ?_) ?_
  · obtain ⟨rfl, rfl⟩ := one_at hi
    exact ⟨fN_name, rfl, ins_ok, ins_nd hm, by show (insN m).length ≤ 2000; rw [ins_len]; omega, rfl, rfl, by show 1 ≤ 2000; decide, fun b hb => .inl (List.mem_singleton.1 hb)⟩
  · rw [List.mem_singleton.1 hd] at hk
    have := congrArg (·.kind) (List.mem_singleton.1 hk)
    cases this
  · rw [decide_eq_true_eq]
    constructor
    · intro h d hd
      rw [List.mem_singleton.1 hd]
      refine ⟨fun b hb => ?_, by show 1 ≤ 1000; decide, by show (insN m).length ≤ 1000; rw [ins_len]; exact h, by show 1 ≤ 999; decide⟩
      rw [List.mem_singleton.1 hb]
      decide
    · intro h
      have := (h _ (List.mem_singleton.2 rfl)).2.2.1
      have e : (insN m).length ≤ 1000 := this
      rw [ins_len] at e
      exact e
theorem nm2_inj {i j : Nat} (hi : i < 1024) (hj : j < 1024) (h : nm2 i = nm2 j) : i = j := by
  unfold nm2 at h
  by_cases a : i = 0 <;> by_cases b : j = 0 <;> simp only [a, b, if_true, if_false] at h
  · omega
  · have := congrArg ByteArray.size h
    rw [nmB_size] at this
    cases this
  · have := congrArg ByteArray.size h
    rw [nmB_size] at this
    cases this
  · exact nmB_inj hi hj h
theorem nm2_name (i : Nat) : A.nameM (nm2 i) = true := by
  unfold nm2
  split
  · exact fN_name
  · exact nmB_name i
theorem sh2 {m : Nat} (h0 : 0 < m) (hm : m ≤ 1024) : ShC (ds2 m) (decide (m ≤ 1000)) := by
  have hl : (ds2 m).length = m := by simp [ds2]
  have hat : ∀ {i d}, (ds2 m)[i]? = some d → i < m ∧ d = dg (nm2 i) [] [blk0] := fun {i d} hi => by
    rw [ds2, List.getElem?_map] at hi
    by_cases h : i < m
    · rw [List.getElem?_range h] at hi
      exact ⟨h, (Option.some.inj hi).symm⟩
    · rw [List.getElem?_eq_none (by simp; omega)] at hi
      cases hi
  refine sh_of (by rw [hl]; omega) (fun i d hi => ?_) (fun d hd k hk => ?_) ?_
  · obtain ⟨h, rfl⟩ := hat hi
    refine ⟨nm2_name i, ?_, (fun p hp => by cases hp), by simp [dg], Nat.zero_le _, rfl, rfl, by show 1 ≤ 2000; decide, fun b hb => .inl (List.mem_singleton.1 hb)⟩
    unfold findD
    rw [List.findIdx?_eq_some_iff_getElem]
    refine ⟨by rw [hl]; exact h, by simp [ds2, dg], fun j hj => ?_⟩
    simp only [ds2, List.getElem_map, List.getElem_range, dg, decide_eq_true_eq]
    intro he
    have := nm2_inj (by omega) (by omega) he
    omega
  · obtain ⟨i, hi⟩ := mem_at hd
    obtain ⟨_, rfl⟩ := hat hi
    have := congrArg (·.kind) (List.mem_singleton.1 hk)
    cases this
  · rw [decide_eq_true_eq, hl]
    constructor
    · intro h d hd
      obtain ⟨i, hi⟩ := mem_at hd
      obtain ⟨_, rfl⟩ := hat hi
      refine ⟨fun b hb => ?_, h, by show 0 ≤ 1000; decide, by show 1 ≤ 999; decide⟩
      rw [List.mem_singleton.1 hb]
      decide
    · intro h
      exact (h (dg (nm2 0) [] [blk0]) (List.mem_map.2 ⟨0, List.mem_range.2 h0, rfl⟩)).2.1
theorem two_at {a b d : Dgm} {i : Nat} (h : [a, b][i]? = some d) : (i = 0 ∧ d = a) ∨ (i = 1 ∧ d = b) := by
  match i, h with
  | 0, h => exact .inl ⟨rfl, (Option.some.inj h).symm⟩
  | 1, h => exact .inr ⟨rfl, (Option.some.inj h).symm⟩
  | i + 2, h => simp at h
theorem sh3 {m k : Nat} (hm : m ≤ 1024) (hk : k = min m 1000) : ShC (ds3 m k) (decide (m ≤ 1000)) := by
  have hk' : k ≤ 1000 := by omega
  have hmem : ∀ d ∈ ds3 m k, d = dg fN [] [blk0, subB m] ∨ d = dg gN (insN k) [blk0] := fun d hd => by
    simpa only [ds3, List.mem_cons, List.not_mem_nil, or_false] using hd
  refine sh_of (by show 2 ≤ 2000; decide) (fun i d hi => ?_) (fun d hd j hj => ?_) ?_
  · rcases two_at hi with ⟨rfl, rfl⟩ | ⟨rfl, rfl⟩
    · refine ⟨fN_name, rfl, (fun p hp => by cases hp), by simp [dg], Nat.zero_le _, rfl, rfl, by show 2 ≤ 2000; decide, fun b hb => ?_⟩
      have : b = blk0 ∨ b = subB m := by simpa only [dg, List.mem_cons, List.not_mem_nil, or_false] using hb
      rcases this with e | e
      · exact .inl e
      · exact .inr ⟨m, e, by omega, rfl, rfl⟩
    · exact ⟨gN_name, rfl, ins_ok, ins_nd (by omega), by show (insN k).length ≤ 2000; rw [ins_len]; omega, rfl, rfl, by show 1 ≤ 2000; decide, fun b hb => .inl (List.mem_singleton.1 hb)⟩
  · intro hj1
    have he : j = m := by
      rcases hmem d hd with rfl | rfl
      · have : subB j = blk0 ∨ subB j = subB m := by simpa only [dg, List.mem_cons, List.not_mem_nil, or_false] using hj
        rcases this with e | e
        · have := congrArg (·.kind) e
          cases this
        · have := congrArg (·.src.length) e
          simpa only [subB, List.length_replicate] using this
      · have := congrArg (·.kind) (List.mem_singleton.1 hj)
        cases this
    subst he
    show j = ((insN k).map (·.type)).length
    rw [List.length_map, ins_len]
    omega
  · rw [decide_eq_true_eq]
    constructor
    · intro h d hd
      rcases hmem d hd with rfl | rfl
      · refine ⟨fun b hb => ?_, by show 2 ≤ 1000; decide, by show 0 ≤ 1000; decide, by show 2 ≤ 999; decide⟩
        have : b = blk0 ∨ b = subB m := by simpa only [dg, List.mem_cons, List.not_mem_nil, or_false] using hb
        rcases this with e | e
        · rw [e]; decide
        · rw [e]
          show (List.replicate m _).length ≤ 1000
          rw [List.length_replicate]
          exact h
      · refine ⟨fun b hb => ?_, by show 2 ≤ 1000; decide, by show (insN k).length ≤ 1000; rw [ins_len]; exact hk', by show 1 ≤ 999; decide⟩
        rw [List.mem_singleton.1 hb]; decide
    · intro h
      have := (h (dg fN [] [blk0, subB m]) (by simp [ds3])).1 (subB m) (by simp [dg])
      have e : (List.replicate m (⟨0, 0⟩ : Src)).length ≤ 1000 := this
      rw [List.length_replicate] at e
      exact e
end Fl
end Go.Proofs.Tryd
/-! Flow: function 8. -/
namespace Go.Proofs.Tryd
set_option linter.unusedSimpArgs false
set_option linter.unusedVariables false
open Go Go.Proofs.Ev
namespace Fl
variable {Γ : List (Nat × List AV)} {w : AV} {G : List (Nat × List AV)}
set_option maxRecDepth 100000 in
theorem awake_calls (hΓ : A.Words (GK w G)) : APure prog (GK w G) 8 [] (.val (.bool true)) := by
  refine APure.of func8 rfl fun σ => ?_
  simp only [ntmps8, List.length_cons, List.length_nil, Nat.reduceAdd, Nat.reduceSub, List.replicate_succ, List.replicate_zero, List.cons_append, List.nil_append]
  refine AW.regl false [0] (by rfl) fun K1 hK1 => ?_ -- region 0
  simp only [go_sem, Nat.reduceAdd, Nat.reduceEqDiff, Nat.reduceLeDiff, true_and, row2_30, row2_33, List.append_assoc, List.cons_append, List.nil_append, src_all, src_len]
  refine hK1 _ _ ?_; try clear hK1 K1
  conv => enter [5]; simp only [setL_cons, setL_nil, List.set_cons_zero, List.set_cons_succ]
  refine AW.regl false [1] (by rfl) fun K2 hK2 => ?_ -- region 1
  simp only [go_sem, Nat.reduceAdd, Nat.reduceEqDiff, Nat.reduceLeDiff, true_and, row2_30, row2_33, List.append_assoc, List.cons_append, List.nil_append, src_all, src_len]
  refine hK2 _ _ ?_; try clear hK2 K2
  conv => enter [5]; simp only [setL_cons, setL_nil, List.set_cons_zero, List.set_cons_succ, upd_none, upd_at]
  refine AW.regl false [2] (by rfl) fun K3 hK3 => ?_ -- region 2
  simp only [go_sem, Nat.reduceAdd, Nat.reduceEqDiff, Nat.reduceLeDiff, true_and, row2_30, row2_33, List.append_assoc, List.cons_append, List.nil_append, src_all, src_len]
  refine hK3 _ _ ?_; try clear hK3 K3
  conv => enter [5]; simp only [setL_cons, setL_nil, List.set_cons_zero, List.set_cons_succ, upd_none, upd_at]
  refine AW.regl false [3] (by rfl) fun K4 hK4 => ?_ -- region 3
  simp only [go_sem, Nat.reduceAdd, Nat.reduceEqDiff, Nat.reduceLeDiff, true_and, row2_30, row2_33, List.append_assoc, List.cons_append, List.nil_append, src_all, src_len]
  refine hK4 _ _ ?_; try clear hK4 K4
  conv => enter [5]; simp only [setL_cons, setL_nil, List.set_cons_zero, List.set_cons_succ, upd_none, upd_at]
  refine AW.regl false [5] (by rfl) fun K5 hK5 => ?_ -- region 4
  simp only [go_sem, Nat.reduceAdd, Nat.reduceEqDiff, Nat.reduceLeDiff, true_and, row2_30, row2_33, List.append_assoc, List.cons_append, List.nil_append, src_all, src_len, aExtract]
  refine sC.ofR en7 (awA_calls hΓ _) (fun v' σ' hR => ?_)
  obtain ⟨rfl, τ, rfl⟩ := hR
  simp only [go_sem, Nat.reduceAdd, Nat.reduceEqDiff, Nat.reduceLeDiff, true_and, row2_30, row2_33, List.append_assoc, List.cons_append, List.nil_append, src_all, src_len, aExtract]
  refine hK5 _ _ ?_; try clear hK5 K5
  conv => enter [5]; simp only [setL_cons, setL_nil, List.set_cons_zero, List.set_cons_succ]
  refine AW.regl false [] (by rfl) fun K6 hK6 => ?_ -- region 5
  simp only [go_sem, Nat.reduceAdd, Nat.reduceEqDiff, Nat.reduceLeDiff, true_and, row2_30, row2_33, List.append_assoc, List.cons_append, List.nil_append, src_all, src_len]
  refine hK6 _ _ ?_; try clear hK6 K6
  conv => enter [5]; simp only [setL_cons, setL_nil, List.set_cons_zero, List.set_cons_succ, upd_none, upd_at]
  refine AW.regl false [] (by rfl) fun K7 hK7 => ?_ -- region 6
  simp only [go_sem, Nat.reduceAdd, Nat.reduceEqDiff, Nat.reduceLeDiff, true_and, row2_30, row2_33, List.append_assoc, List.cons_append, List.nil_append, src_all, src_len]
  refine hK7 _ _ ?_; try clear hK7 K7
  conv => enter [5]; simp only [setL_cons, setL_nil, List.set_cons_zero, List.set_cons_succ, upd_none, upd_at]
  refine AW.regl false [6, 7] (by rfl) fun K8 hK8 => ?_ -- region 7
  simp only [go_sem, Nat.reduceAdd, Nat.reduceEqDiff, Nat.reduceLeDiff, true_and, row2_30, row2_33, List.append_assoc, List.cons_append, List.nil_append, src_all, src_len, aExtract]
  refine sC.ofR en7 (awB_calls hΓ _) (fun v' σ' hR => ?_)
  obtain ⟨rfl, τ2, rfl⟩ := hR
  simp only [go_sem, Nat.reduceAdd, Nat.reduceEqDiff, Nat.reduceLeDiff, true_and, row2_30, row2_33, List.append_assoc, List.cons_append, List.nil_append, src_all, src_len, aExtract]
  refine hK8 _ _ ?_; try clear hK8 K8
  conv => enter [5]; simp only [setL_cons, setL_nil, List.set_cons_zero, List.set_cons_succ]
  refine AW.regtf false 0 (.val (.bool (true))) (by rfl) ?_ ?_ -- region 8
  · skip
    simp only [go_sem, Nat.reduceAdd, Nat.reduceEqDiff, Nat.reduceLeDiff, true_and, row2_30, row2_33, List.append_assoc, List.cons_append, List.nil_append, src_all, src_len, beq_self_eq_true, ofC_ptr, ptrn43, if_true]
    try simp [upd_at, row2_30, row2_33, List.append_assoc, List.cons_append, List.nil_append, src_all, src_len, beq_self_eq_true, ofC_ptr, ptrn43, if_true]
  conv => enter [5]; simp only [List.set_cons_zero, List.set_cons_succ]
  refine AW.ret ⟨.inr rfl, _, rfl, by simp, ?_⟩ -- return 1
  exact .keep rfl
end Fl
end Go.Proofs.Tryd
/-! Flow: what the walk through a file of too much needs. -/
namespace Go.Proofs.Tryd
set_option linter.unusedSimpArgs false
set_option linter.unusedVariables false
open Go Go.Proofs.Ev
namespace Fl
theorem shrN (T : TypeId) (i k : Nat) (hk : k ≤ 63) : aBin prog .shr T (i64 ((i : Nat) : Int)) (i64 ((k : Nat) : Int)) = some (i64 ((i >>> k : Nat) : Int)) := by
  have hb : IntKind.bits .i64 = 64 := rfl
  have h0 : ¬ ((k : Nat) : Int) < 0 := by omega
  have hm : min k 64 = k := Nat.min_eq_left (by omega)
  have : (i : Int).fdiv (2 ^ k) = ((i >>> k : Nat) : Int) := by
    rw [Int.fdiv_eq_ediv_of_nonneg _ (Int.le_of_lt (Int.pow_pos (by decide))), Nat.shiftRight_eq_div_pow]
    simp
  simp only [i64, aBin, aShift, if_neg h0, Option.map_some, Int.toNat_natCast, hb, hm, this]
theorem remN (T : TypeId) (K : IntKind) (a b : Nat) (hb : 0 < b) : aBin prog .rem T (.val (.int K ((a : Nat) : Int))) (.val (.int K ((b : Nat) : Int))) = some (.val (.int K ((a % b : Nat) : Int))) := by
  have h0 : ¬ ((b : Nat) : Int) = 0 := by omega
  have : (a : Int).tmod (b : Int) = ((a % b : Nat) : Int) := rfl
  simp only [aBin, aInt, if_true, if_neg h0, this, Option.map_some]
theorem rem1006 (T : TypeId) (K : IntKind) (a : Nat) : aBin prog .rem T (.val (.int K ((a : Nat) : Int))) (.val (.int K 1006)) = some (.val (.int K ((a % 1006 : Nat) : Int))) := remN T K a 1006 (by decide)
theorem rem4 (T : TypeId) (K : IntKind) (a : Nat) : aBin prog .rem T (.val (.int K ((a : Nat) : Int))) (.val (.int K 4)) = some (.val (.int K ((a % 4 : Nat) : Int))) := remN T K a 4 (by decide)
theorem rem2 (T : TypeId) (K : IntKind) (a : Nat) : aBin prog .rem T (.val (.int K ((a : Nat) : Int))) (.val (.int K 2)) = some (.val (.int K ((a % 2 : Nat) : Int))) := remN T K a 2 (by decide)
theorem wrap_small (K : IntKind) (n : Nat) (h : n ≤ 127) : K.wrap ((n : Nat) : Int) = ((n : Nat) : Int) := by
  cases K <;> simp [IntKind.wrap, IntKind.bits, IntKind.signed] <;> omega
theorem addD (T : TypeId) (x : Nat) : aBin prog .add T (i64 48) (i64 ((x % 2 : Nat) : Int)) = some (i64 ((48 + x % 2 : Nat) : Int)) := by
  have e : (48 : Int) + ((x % 2 : Nat) : Int) = ((48 + x % 2 : Nat) : Int) := by omega
  simp only [i64, aBin, aInt, if_true, Option.map_some, e]
  rw [wrap_small _ _ (by omega)]
theorem cvD (σ : Sto) (i k : Nat) : aConv prog σ 3 5 (i64 ((48 + (i >>> k) % 2 : Nat) : Int)) = some (byteAV (digB i k), σ) := by
  rw [i64, cvt3_5, wrap_small _ _ (by omega), byteAV, digB_nat]
theorem cvB (σ : Sto) (b : UInt8) : aConv prog σ 82 9 (.slf 1 [byteAV b]) = some (str ⟨#[b]⟩, σ) := by
  rw [aConv_str (by kernel_rfl) (by kernel_rfl) σ _ (fun _ _ => by simp) (fun _ => by simp), aStrOf_eq (by kernel_rfl) (by kernel_rfl)]
  have := bytesOf_map [b]
  simp only [List.map_cons, List.map_nil] at this
  simp only [aStrV, this]
  rfl
theorem row82B (σ : Sto) (b : UInt8) : aRow prog false σ 82 1 [(0, byteAV b)] = some (.slf 1 [byteAV b], σ) := row1_82 σ _ rfl rfl
theorem nmS_size (i k : Nat) : (nmS i k).size = k + 1 := by
  show (nmL i k).toArray.size = k + 1
  simp [nmL]
theorem nmS_snoc (i k : Nat) : nmS i k ++ ⟨#[digB i k]⟩ = nmS i (k + 1) := by
  apply ByteArray.ext
  rw [ByteArray.data_append]
  show (nmL i k).toArray ++ #[digB i k] = (nmL i (k + 1)).toArray
  simp [nmL, List.range_succ]
theorem catD (T : TypeId) (i k : Nat) (hk : k ≤ 100) : aBin prog .add T (str (nmS i k)) (str ⟨#[digB i k]⟩) = some (str (nmS i (k + 1))) := by
  have h1 : ¬ (((nmS i k).size + (⟨#[digB i k]⟩ : ByteArray).size : Nat) : Int) > IntKind.i64.max := by
    rw [nmS_size]
    show ¬ ((k + 1 + 1 : Nat) : Int) > 9223372036854775807
    omega
  simp only [str, aBin, aStr, if_neg h1, Option.map_some, nmS_snoc]
end Fl
end Go.Proofs.Tryd
