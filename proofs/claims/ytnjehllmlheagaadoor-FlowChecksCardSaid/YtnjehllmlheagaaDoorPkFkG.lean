import Derived.Test.YtnjehllmlheagaaDoorPkFkF
/-! Flow: function 4. -/
namespace Go.Proofs.Tryd
set_option linter.unusedSimpArgs false
set_option linter.unusedVariables false
open Go Go.Proofs.Ev
namespace Fl
variable {Γ : List (Nat × List AV)} {w : AV} {G : List (Nat × List AV)}
attribute [local go_sem] true_and List.length_map len_row one_row List.drop_zero blk_len dgm_len port_len out_len src_len file_len rdgm_get rblk_get rsrc_get rfile_get dgm_all blk_all src_all file_all idx51_0 idx51_1 idx51_2 aExtract
set_option maxRecDepth 100000 in
set_option maxHeartbeats 2000000 in
theorem law_calls (hΓ : A.Words (GK w G)) (f : FileM) (hok : f.ok) (hfit : f.fit) (a0 a1 a2 : Int) (nm : ByteArray) : APure prog (GK w G) 4 [f.enc, .agg [i64 a0, i64 a1, i64 a2], .val (.string nm)] (.val (.bool true)) := by
 refine APure.of func4 rfl fun σ => ?_
 simp only [ntmps4, List.length_cons, List.length_nil, Nat.reduceAdd, Nat.reduceSub, List.replicate_succ, List.replicate_zero, List.cons_append, List.nil_append]
 have h3 := fun (l : Sto) => app_get0 σ l
 have h4 := fun (l : Sto) => app_get0 σ l
 refine AW.regl false [3, 4, 6] (by rfl) fun K1 hK1 => ?_
 simp only [go_sem, Nat.reduceAdd, Nat.reduceEqDiff, Nat.reduceLeDiff, h3, h4]
 refine hK1 _ _ ?_
 conv => enter [5]; simp only [sl1, sl0, sz0, sz1]
 refine AW.seq_k fun K2 hK2 => ?_
 refine AW.regtf false 27 (.val (.bool (f.great || decide (((nm.size : Nat) : Int) > 300)))) (by rfl) ?_ ?_
 ·skip
  cases h22 : (f.great)
  ·skip
   simp only [go_sem, Nat.reduceAdd, Nat.reduceEqDiff, Nat.reduceLeDiff, h3, h4, h22]
   refine sC.of en9 ((great_calls f hok).on _).here (by rfl) ?_
   simp only [go_sem, Nat.reduceAdd, Nat.reduceEqDiff, Nat.reduceLeDiff, h3, h4, h22]
   try simp [upd_at, h22, List.length_map, len_row, one_row, List.drop_zero, blk_len, dgm_len, port_len, out_len, src_len, file_len, rdgm_get, rblk_get, rsrc_get, rfile_get, dgm_all, blk_all, src_all, file_all, idx51_0, idx51_1, idx51_2, h3, h4, aExtract]
  ·skip
   simp only [go_sem, Nat.reduceAdd, Nat.reduceEqDiff, Nat.reduceLeDiff, h3, h4, h22]
   refine sC.of en9 ((great_calls f hok).on _).here (by rfl) ?_
   simp only [go_sem, Nat.reduceAdd, Nat.reduceEqDiff, Nat.reduceLeDiff, h3, h4, h22]
   try simp [upd_at, h22, List.length_map, len_row, one_row, List.drop_zero, blk_len, dgm_len, port_len, out_len, src_len, file_len, rdgm_get, rblk_get, rsrc_get, rfile_get, dgm_all, blk_all, src_all, file_all, idx51_0, idx51_1, idx51_2, h3, h4, aExtract]
 conv => enter [5]; simp only [sz0, sz1]
 refine AW.cond rfl (fun hc27 => ?_) (fun hc27 => ?_)
 ·skip
  refine AW.regl false [6] (by rfl) fun K4 hK4 => ?_
  simp only [go_sem, Nat.reduceAdd, Nat.reduceEqDiff, Nat.reduceLeDiff, h3, h4]
  refine hK4 _ _ ?_
  conv => enter [5]; simp only [sl1, sl0, sz0, sz1]
  refine AW.ret ⟨.inr rfl, _, rfl, by first | (simp; done) | (rw [hρ]; simp), ?_⟩
  exact .keep rfl
 ·skip
  have hgr : f.great = false := by cases h : f.great with | false => rfl | true => rw [h] at hc27; simp at hc27
  have hs := small_of hgr
  have hrr := rright_eq f hs hfit
  obtain ⟨E, hE⟩ : ∃ z, z = chkC f.own := ⟨_, rfl⟩
  have hlF : f.ds.length ≤ maxLen := by rw [maxLen_eq]; have := hs.1; omega
  have hrk := rcheck_calls (Γ := GK w G) f hs hrr (fun h d hd => good_of h hd)
  rw [← own_chkC, ← hE] at hrk
  refine AW.skip ?_
  refine hK2 _ _ ?_
  refine AW.regl false [7, 8] (by rfl) fun K5 hK5 => ?_
  simp only [go_sem, Nat.reduceAdd, Nat.reduceEqDiff, Nat.reduceLeDiff, h3, h4]
  refine sC.of en10 ((own_calls f hs).on _).here (by rfl) ?_
  simp only [go_sem, Nat.reduceAdd, Nat.reduceEqDiff, Nat.reduceLeDiff, h3, h4]
  refine sC.ofR en7 (lawCheck hΓ f hs hok E hE _ (σ.length + 6) (by simp)) (fun v' σ' hR => ?_)
  obtain ⟨p, τ, rfl, rfl, hpn, hF⟩ := hR
  simp only [go_sem, Nat.reduceAdd, Nat.reduceEqDiff, Nat.reduceLeDiff, h3, h4]
  refine hK5 _ _ ?_
  conv => enter [5]; simp only [sl1, sl0, sz0, sz1]
  refine AW.regl false [9] (by rfl) fun K6 hK6 => ?_
  simp only [go_sem, Nat.reduceAdd, Nat.reduceEqDiff, Nat.reduceLeDiff, h3, h4]
  refine sC.of en11 (hrk.on _).here (by rfl) ?_
  simp only [go_sem, Nat.reduceAdd, Nat.reduceEqDiff, Nat.reduceLeDiff, h3, h4]
  refine hK6 _ _ ?_
  conv => enter [5]; simp only [sl1, sl0, sz0, sz1]
  refine AW.seq_k fun K7 hK7 => ?_
  refine AW.regtf false 45 (.val (.bool (false))) (by rfl) ?_ ?_
  ·skip
   simp only [go_sem, Nat.reduceAdd, Nat.reduceEqDiff, Nat.reduceLeDiff, h3, h4, hpn, ofC_ptr, bne_self_eq_false, beq_dec, nb4]
   try simp [upd_at, List.length_map, len_row, one_row, List.drop_zero, blk_len, dgm_len, port_len, out_len, src_len, file_len, rdgm_get, rblk_get, rsrc_get, rfile_get, dgm_all, blk_all, src_all, file_all, idx51_0, idx51_1, idx51_2, h3, h4, aExtract, hpn, ofC_ptr, bne_self_eq_false, beq_dec, nb4]
  conv => enter [5]; simp only [sz0, sz1]
  refine AW.cond rfl (fun hc45 => ?_) (fun hc45 => ?_)
  ·skip
   exact absurd hc45 (by simp)
  ·skip
   refine AW.skip ?_
   refine hK7 _ _ ?_
   refine AW.seq_k fun K9 hK9 => ?_
   refine AW.regl false [47] (by rfl) fun K10 hK10 => ?_
   simp only [go_sem, Nat.reduceAdd, Nat.reduceEqDiff, Nat.reduceLeDiff, h3, h4]
   refine hK10 _ _ ?_
   conv => enter [5]; simp only [sl1, sl0, sz0, sz1]
   refine AW.cond rfl (fun hc47 => ?_) (fun hc47 => ?_)
   ·skip
    refine AW.regl false [6] (by rfl) fun K11 hK11 => ?_
    simp only [go_sem, Nat.reduceAdd, Nat.reduceEqDiff, Nat.reduceLeDiff, h3, h4]
    refine sC.of en8 ((awake_calls hΓ).on _).here (by rfl) ?_
    simp only [go_sem, Nat.reduceAdd, Nat.reduceEqDiff, Nat.reduceLeDiff, h3, h4]
    refine hK11 _ _ ?_
    conv => enter [5]; simp only [sl1, sl0, sz0, sz1]
    refine AW.ret ⟨.inr rfl, _, rfl, by first | (simp; done) | (rw [hρ]; simp), ?_⟩
    exact .keep rfl
   ·skip
    have hE0 : E = 0 := by simpa using hc47
    obtain ⟨rfl, hFn⟩ := hF hE0
    have hr : f.right = true := by
     have h := own_chkC f
     rw [← hE, hE0] at h
     cases hr : f.right with
     | true => rfl
     | false => rw [hr] at h; simp at h
    have hgd := fun d hd => good_of (f := f) (d := d) hr hd
    obtain ⟨N, tys, ords, Mf, Or, dg, ht, hn, hN, hy, hM, ho, hO, hOr, hMf, hdg, hdl⟩ := fin_use hFn hr hs
    obtain ⟨ρ, hρ⟩ : ∃ z, z = σ ++ (AO.cells f.enc.cells :: AO.cells [i64 a0, i64 a1, i64 a2] :: τ) := ⟨_, rfl⟩
    have hρ' : (σ ++ [AO.cells f.enc.cells, AO.cells [i64 a0, i64 a1, i64 a2]]) ++ τ = ρ := by rw [hρ, List.append_assoc]; rfl
    rw [hρ'] at ht hn hy hM ho
    have hsl : (σ ++ [AO.cells f.enc.cells, AO.cells [i64 a0, i64 a1, i64 a2]]).length + 4 = σ.length + 6 := by simp
    rw [hsl] at ht
    clear h3 h4
    have h3 : ρ[σ.length]? = some (.cells f.enc.cells) := by rw [hρ]; simp
    have h4 : ρ[σ.length + 1]? = some (.cells [i64 a0, i64 a1, i64 a2]) := by rw [hρ]; simp
    have hρ2 : σ ++ ([AO.cells f.enc.cells, AO.cells [i64 a0, i64 a1, i64 a2]] ++ τ) = ρ := by rw [hρ]; rfl
    first | rw [← hρ] | rw [hρ'] | rw [hρ2]
    refine AW.skip ?_
    refine hK9 _ _ ?_
    refine AW.seq_k fun K12 hK12 => ?_
    refine AW.regl false [10] (by rfl) fun K13 hK13 => ?_
    simp only [go_sem, Nat.reduceAdd, Nat.reduceEqDiff, Nat.reduceLeDiff, h3, h4, FileM.enc]
    refine hK13 _ _ ?_
    conv => enter [5]; simp only [sl1, sl0, sz0, sz1]
    refine AW.block ?_
    refine AW.loop_wk (α := Nat) (fun i => [.any, .any, (.val (.string nm)), (.ref σ.length 0), (.ref (σ.length + 1) 0), .any, .any, (.ref (σ.length + 6) 0), .any, .any, (.val (.int .i64 ((i : Nat) : Int))), .any, .any, .any, .any, .any, .any, .any, .any, .any, .any, .any, .any, .any, .any, .any, .any, .any, .any, .any, .any, .any, .any, .any, .any, .any, .any, .any, .any, .any, .any, .any, .any, .any, .any, .any, .any, .any, .any, .any, .any, .any, .any, .any, .any, .any, .any, .any, .any, .any, .any, .any, .any, .any, .any, .any, .any, .any, .any, .any, .any, .any, .any, .any, .any, .any, .any, .any, .any, .any, .any, .any, .any, .any, .any, .any, .any, .any, .any, .any, .any, .any, .any, .any, .any, .any, .any, .any, .any, .any, .any, .any, .any, .any, .any, .any, .any, .any, .any, .any, .any, .any, .any, .any, .any, .any, .any, .any, .any, .any, .any, .any, .any, .any, .any, .any, .any, .any, .any, .any, .any, .any, .any, .any, .any, .any, .any, .any, .any, .any, .any, .any, .any, .any, .any, .any, .any, .any, .any, .any, .any, .any, .any, .any, .any, .any, .any, .any, .any, .any, .any, .any, .any, .any, .any]) (fun i => ρ) (fun i => f.ds.length - i) (fun i => i ≤ f.ds.length) 0 ?_ ?_
    ·exact ⟨Nat.zero_le _, by simp [Wk], rfl⟩
    ·intro i hi
     refine AW.seq_k fun K14 hK14 => ?_
     refine AW.regl false [53] (by rfl) fun K15 hK15 => ?_
     simp only [go_sem, Nat.reduceAdd, Nat.reduceEqDiff, Nat.reduceLeDiff, h3, h4, FileM.enc]
     refine hK15 _ _ ?_
     conv => enter [5]; simp only [sl1, sl0, sz0, sz1]
     refine AW.cond rfl (fun hc53 => ?_) (fun hc53 => ?_)
     ·skip
      have hi1 : i < f.ds.length := by simpa using hc53
      obtain ⟨d, hd⟩ : ∃ z, z = f.ds[i] := ⟨_, rfl⟩
      have hfd : f.ds[i]? = some d := by rw [hd]; exact List.getElem?_eq_getElem hi1
      have hx : (f.ds.map Dgm.enc)[i]? = some d.enc := by simp [hfd]
      have hdm := List.mem_of_getElem? hfd
      have hoc := rorder_calls (Γ := GK w G) d (hs.2 d hdm) (hgd d hdm).inB
      unfold ordV at hoc
      have hoi : orO f.ds.length Or ((i : Nat) : Int) = (ordD d).getD [] := by
       rw [orO, if_neg (by simp; omega), Int.toNat_natCast]
       exact (hOr i d hfd).1
      have hol : (orO f.ds.length Or ((i : Nat) : Int)).length ≤ 2000 := by
       rw [orO, if_neg (by simp; omega), Int.toNat_natCast]
       obtain ⟨o, h⟩ := (hOr i d hfd).2
       rw [(hOr i d hfd).1, h]
       have h1 := (ord_ok h).1
       have := (hs.2 d hdm).2.2.1
       simp only [Option.getD_some]
       omega
      refine AW.skip ?_
      refine hK14 _ _ ?_
      refine AW.seq_k fun K16 hK16 => ?_
      refine AW.block ?_
      refine AW.regl false [11] (by rfl) fun K17 hK17 => ?_
      simp only [go_sem, Nat.reduceAdd, Nat.reduceEqDiff, Nat.reduceLeDiff, h3, h4, FileM.enc, at_row hx]
      refine sC.of en12 (hoc.on _).here (by rfl) ?_
      simp only [go_sem, Nat.reduceAdd, Nat.reduceEqDiff, Nat.reduceLeDiff, h3, h4, FileM.enc, at_row hx]
      refine hK17 _ _ ?_
      conv => enter [5]; simp only [sl1, sl0, sz0, sz1]
      refine AW.regl false [70] (by rfl) fun K18 hK18 => ?_
      simp only [go_sem, Nat.reduceAdd, Nat.reduceEqDiff, Nat.reduceLeDiff, h3, h4]
      refine sC.of en14 (order_calls ht ho Or hO ((i : Nat) : Int)).here (by rfl) ?_
      simp only [go_sem, Nat.reduceAdd, Nat.reduceEqDiff, Nat.reduceLeDiff, h3, h4]
      refine sC.of en13 ((alike_calls true true (orO f.ds.length Or ((i : Nat) : Int)) ((ordD d).getD []) hol).on _).here (by rfl) ?_
      simp only [go_sem, Nat.reduceAdd, Nat.reduceEqDiff, Nat.reduceLeDiff, h3, h4]
      refine hK18 _ _ ?_
      conv => enter [5]; simp only [sl1, sl0, sz0, sz1]
      refine AW.cond rfl (fun hc70 => ?_) (fun hc70 => ?_)
      ·skip
       exact absurd hc70 (by rw [decide_eq_true hoi]; simp)
      ·skip
       refine AW.skip ?_
       refine hK16 _ _ ?_
       refine AW.lastl false [10] (by rfl) fun K hK => ?_
       simp only [go_sem, Nat.reduceAdd, Nat.reduceEqDiff, Nat.reduceLeDiff, h3, h4]
       refine hK _ _ fun env' hw => ?_
       simp only [setL_cons, setL_nil, List.set_cons_zero, List.set_cons_succ] at hw
       refine ⟨i + 1, by omega, by omega, ?_, rfl⟩
       refine hw.trans ?_
       simp [Wk, wrap_succ hi1 hlF]
       try omega
     ·skip
      have hi1 : i = f.ds.length := by
       have : ¬ i < f.ds.length := by simpa using hc53
       omega
      have hdc := rdiagrams_calls (Γ := GK w G) f (by have := hs.1; omega) (fun d hd => by have := (hs.2 d hd).2.2.1; omega) (fun d hd => (hgd d hd).subOk)
      unfold ordV at hdc
      refine AW.exit ?_
      refine hK12 _ _ ?_
      refine AW.regl false [13] (by rfl) fun K19 hK19 => ?_
      simp only [go_sem, Nat.reduceAdd, Nat.reduceEqDiff, Nat.reduceLeDiff, h3, h4]
      refine sC.of en15 (hdc.on _).here (by rfl) ?_
      simp only [go_sem, Nat.reduceAdd, Nat.reduceEqDiff, Nat.reduceLeDiff, h3, h4]
      refine hK19 _ _ ?_
      conv => enter [5]; simp only [sl1, sl0, sz0, sz1]
      refine AW.regl false [15] (by rfl) fun K20 hK20 => ?_
      simp only [go_sem, Nat.reduceAdd, Nat.reduceEqDiff, Nat.reduceLeDiff, h3, h4]
      refine hK20 _ _ ?_
      conv => enter [5]; simp only [sl1, sl0, sz0, sz1]
      refine AW.seq_k fun K21 hK21 => ?_
      refine AW.regtf false 86 (.val (.bool (decide (a0 ≥ 0) && decide (a0 < ((f.ds.length : Nat) : Int))))) (by rfl) ?_ ?_
      ·skip
       cases h78 : (decide (a0 ≥ 0))
       ·skip
        simp only [go_sem, Nat.reduceAdd, Nat.reduceEqDiff, Nat.reduceLeDiff, h3, h4, FileM.enc, h78]
        try simp [upd_at, h78, List.length_map, len_row, one_row, List.drop_zero, blk_len, dgm_len, port_len, out_len, src_len, file_len, rdgm_get, rblk_get, rsrc_get, rfile_get, dgm_all, blk_all, src_all, file_all, idx51_0, idx51_1, idx51_2, h3, h4, aExtract, FileM.enc]
       ·skip
        simp only [go_sem, Nat.reduceAdd, Nat.reduceEqDiff, Nat.reduceLeDiff, h3, h4, FileM.enc, h78]
        try simp [upd_at, h78, List.length_map, len_row, one_row, List.drop_zero, blk_len, dgm_len, port_len, out_len, src_len, file_len, rdgm_get, rblk_get, rsrc_get, rfile_get, dgm_all, blk_all, src_all, file_all, idx51_0, idx51_1, idx51_2, h3, h4, aExtract, FileM.enc]
      conv => enter [5]; simp only [sz0, sz1]
      refine AW.cond rfl (fun hc86 => ?_) (fun hc86 => ?_)
      ·skip
       have ha : 0 ≤ a0 ∧ a0 < (f.ds.length : Int) := by simpa using hc86
       obtain ⟨i0, hi0⟩ := Int.eq_ofNat_of_zero_le ha.1
       have hil0 : i0 < f.ds.length := by omega
       obtain ⟨d0, hd0⟩ : ∃ z, f.ds[i0]? = some z := ⟨_, List.getElem?_eq_getElem hil0⟩
       have hx0 : (f.ds.map Dgm.enc)[i0]? = some d0.enc := by simp [hd0]
       have hdm0 := List.mem_of_getElem? hd0
       obtain ⟨o0, ho0⟩ := (hOr i0 d0 hd0).2
       have hty := rtype_calls (Γ := GK w G) f d0 (hgd d0 hdm0).wf (dN d0) ⟨a1, a2⟩ (dp_all ho0 (hgd d0 hdm0).inB _)
       have hofo : ofO f.ds.length Mf a0 ⟨a1, a2⟩ = if 0 ≤ T f d0 ⟨a1, a2⟩ then some (T f d0 ⟨a1, a2⟩) else none := by
        rw [hi0, ofO, if_neg (by simp; omega), Int.toNat_natCast, hMf i0 d0 hd0 ⟨a1, a2⟩]
        by_cases hv : f.source d0 ⟨a1, a2⟩ = true
        ·rw [if_pos hv, if_pos (T_pos hr hdm0 ho0 hv)]
        ·rw [if_neg hv, T_bad (by simpa using hv)]
         rfl
       refine AW.lastdl mixed false [15] (by kernel_rfl) (by rfl) fun K hK => ?_
       simp only [go_sem, Nat.reduceAdd, Nat.reduceEqDiff, Nat.reduceLeDiff, h3, h4, FileM.enc, hi0, at_row hx0]
       refine qC.of en16 (hty.on _).here (by rfl) ?_
       simp only [go_sem, Nat.reduceAdd, Nat.reduceEqDiff, Nat.reduceLeDiff, h3, h4, FileM.enc, hi0, at_row hx0]
       refine hK _ fun env' hw => ?_
       simp only [setL_cons, setL_nil, List.set_cons_zero, List.set_cons_succ] at hw
       refine hK21 _ _ (AW.weaken hw ?_); clear hw
       skip
       refine AW.regl false [16, 17] (by rfl) fun K23 hK23 => ?_
       simp only [go_sem, Nat.reduceAdd, Nat.reduceEqDiff, Nat.reduceLeDiff, h3, h4]
       refine sC.of en17 (of_calls ht hy Mf hM a0 ⟨a1, a2⟩).here (by rfl) ?_
       simp only [go_sem, Nat.reduceAdd, Nat.reduceEqDiff, Nat.reduceLeDiff, h3, h4]
       refine hK23 _ _ ?_
       conv => enter [5]; simp only [sl1, sl0, sz0, sz1]
       refine AW.regl false [18, 19] (by rfl) fun K24 hK24 => ?_
       simp only [go_sem, Nat.reduceAdd, Nat.reduceEqDiff, Nat.reduceLeDiff, h3, h4]
       refine sC.of en18 (find_calls N ht hn nm).here (by rfl) ?_
       simp only [go_sem, Nat.reduceAdd, Nat.reduceEqDiff, Nat.reduceLeDiff, h3, h4]
       refine hK24 _ _ ?_
       conv => enter [5]; simp only [sl1, sl0, sz0, sz1]
       refine AW.regl false [20] (by rfl) fun K25 hK25 => ?_
       simp only [go_sem, Nat.reduceAdd, Nat.reduceEqDiff, Nat.reduceLeDiff, h3, h4]
       refine sC.of en19 ((rfind_calls f nm (by have := hs.1; omega)).on _).here (by rfl) ?_
       simp only [go_sem, Nat.reduceAdd, Nat.reduceEqDiff, Nat.reduceLeDiff, h3, h4]
       refine hK25 _ _ ?_
       conv => enter [5]; simp only [sl1, sl0, sz0, sz1]
       refine AW.seq_k fun K26 hK26 => ?_
       obtain ⟨hm1, hm2⟩ := max0 (W := (typ f d0 (dN d0) ⟨a1, a2⟩)) (o := (ofO f.ds.length Mf a0 ⟨a1, a2⟩)) hofo
       obtain ⟨hm3, hm4⟩ := numA_max (findD f.ds nm)
       refine AW.regtf false 142 (.val (.bool ((((ofO f.ds.length Mf a0 ⟨a1, a2⟩).isSome != decide ((typ f d0 (dN d0) ⟨a1, a2⟩) ≥ 0) || (ofO f.ds.length Mf a0 ⟨a1, a2⟩).getD 0 != max 0 (typ f d0 (dN d0) ⟨a1, a2⟩)) || (lookN N nm).isSome != decide (numA (findD f.ds nm) ≥ 0)) || ((((lookN N nm).getD 0 : Nat) : Int)) != max 0 (numA (findD f.ds nm))))) (by rfl) ?_ ?_
       ·skip
        cases h124 : ((ofO f.ds.length Mf a0 ⟨a1, a2⟩).isSome != decide ((typ f d0 (dN d0) ⟨a1, a2⟩) ≥ 0))
        ·skip
         cases h129 : ((ofO f.ds.length Mf a0 ⟨a1, a2⟩).getD 0 != max 0 (typ f d0 (dN d0) ⟨a1, a2⟩))
         ·skip
          cases h135 : ((lookN N nm).isSome != decide (numA (findD f.ds nm) ≥ 0))
          ·skip
           simp only [go_sem, Nat.reduceAdd, Nat.reduceEqDiff, Nat.reduceLeDiff, h3, h4, nb4, beq_dec, mx0, h124, h129, h135]
           try simp [upd_at, h124, h129, h135, List.length_map, len_row, one_row, List.drop_zero, blk_len, dgm_len, port_len, out_len, src_len, file_len, rdgm_get, rblk_get, rsrc_get, rfile_get, dgm_all, blk_all, src_all, file_all, idx51_0, idx51_1, idx51_2, h3, h4, aExtract, nb4, beq_dec, mx0]
          ·skip
           simp only [go_sem, Nat.reduceAdd, Nat.reduceEqDiff, Nat.reduceLeDiff, h3, h4, nb4, beq_dec, mx0, h124, h129, h135]
           try simp [upd_at, h124, h129, h135, List.length_map, len_row, one_row, List.drop_zero, blk_len, dgm_len, port_len, out_len, src_len, file_len, rdgm_get, rblk_get, rsrc_get, rfile_get, dgm_all, blk_all, src_all, file_all, idx51_0, idx51_1, idx51_2, h3, h4, aExtract, nb4, beq_dec, mx0]
         ·skip
          simp only [go_sem, Nat.reduceAdd, Nat.reduceEqDiff, Nat.reduceLeDiff, h3, h4, nb4, beq_dec, mx0, h124, h129]
          try simp [upd_at, h124, h129, List.length_map, len_row, one_row, List.drop_zero, blk_len, dgm_len, port_len, out_len, src_len, file_len, rdgm_get, rblk_get, rsrc_get, rfile_get, dgm_all, blk_all, src_all, file_all, idx51_0, idx51_1, idx51_2, h3, h4, aExtract, nb4, beq_dec, mx0]
        ·skip
         simp only [go_sem, Nat.reduceAdd, Nat.reduceEqDiff, Nat.reduceLeDiff, h3, h4, nb4, beq_dec, mx0, h124]
         try simp [upd_at, h124, List.length_map, len_row, one_row, List.drop_zero, blk_len, dgm_len, port_len, out_len, src_len, file_len, rdgm_get, rblk_get, rsrc_get, rfile_get, dgm_all, blk_all, src_all, file_all, idx51_0, idx51_1, idx51_2, h3, h4, aExtract, nb4, beq_dec, mx0]
       conv => enter [5]; simp only [sz0, sz1]
       refine AW.cond rfl (fun hc142 => ?_) (fun hc142 => ?_)
       ·skip
        rw [hm1, hm2, hN nm, hm3, hm4] at hc142; exact absurd hc142 (by simp)
       ·skip
        refine AW.skip ?_
        refine hK26 _ _ ?_
        have hod1 := order_calls (Γ := GK w G) ht ho Or hO (-1)
        have hod2 := order_calls (Γ := GK w G) ht ho Or hO ((f.ds.length : Nat) : Int)
        have hal : decide (dg = (ordF f).getD []) = true := decide_eq_true hdg
        have hem : orO f.ds.length Or (-1) = [] := by rw [orO, if_pos (by simp)]
        have hen : orO f.ds.length Or ((f.ds.length : Nat) : Int) = [] := by rw [orO, if_pos (by simp)]
        refine AW.regtf false 6 (.val (.bool (true))) (by rfl) ?_ ?_
        ·skip
         simp only [go_sem, Nat.reduceAdd, Nat.reduceEqDiff, Nat.reduceLeDiff, h3, h4, FileM.enc, hal, hem, hen, len_rowN, c0, beq_self_eq_true, List.length_nil, ofC_ptr]
         refine sC.of en20 (dias_calls ht (by omega)).here (by rfl) ?_
         simp only [go_sem, Nat.reduceAdd, Nat.reduceEqDiff, Nat.reduceLeDiff, h3, h4, FileM.enc, hal, hem, hen, len_rowN, c0, beq_self_eq_true, List.length_nil, ofC_ptr]
         refine sC.of en13 ((alike_calls true true dg ((ordF f).getD []) hdl).on _).here (by rfl) ?_
         simp only [go_sem, Nat.reduceAdd, Nat.reduceEqDiff, Nat.reduceLeDiff, h3, h4, FileM.enc, hal, hem, hen, len_rowN, c0, beq_self_eq_true, List.length_nil, ofC_ptr]
         refine sC.of en14 (hod1).here (by rfl) ?_
         simp only [go_sem, Nat.reduceAdd, Nat.reduceEqDiff, Nat.reduceLeDiff, h3, h4, FileM.enc, hal, hem, hen, len_rowN, c0, beq_self_eq_true, List.length_nil, ofC_ptr]
         refine sC.of en14 (hod2).here (by rfl) ?_
         simp only [go_sem, Nat.reduceAdd, Nat.reduceEqDiff, Nat.reduceLeDiff, h3, h4, FileM.enc, hal, hem, hen, len_rowN, c0, beq_self_eq_true, List.length_nil, ofC_ptr]
         refine sC.of en8 ((awake_calls hΓ).on _).here (by rfl) ?_
         simp only [go_sem, Nat.reduceAdd, Nat.reduceEqDiff, Nat.reduceLeDiff, h3, h4, FileM.enc, hal, hem, hen, len_rowN, c0, beq_self_eq_true, List.length_nil, ofC_ptr]
         try simp [upd_at, List.length_map, len_row, one_row, List.drop_zero, blk_len, dgm_len, port_len, out_len, src_len, file_len, rdgm_get, rblk_get, rsrc_get, rfile_get, dgm_all, blk_all, src_all, file_all, idx51_0, idx51_1, idx51_2, h3, h4, aExtract, FileM.enc, hal, hem, hen, len_rowN, c0, beq_self_eq_true, List.length_nil, ofC_ptr]
        conv => enter [5]; simp only [sz0, sz1]
        refine AW.ret ⟨.inr rfl, _, rfl, by first | (simp; done) | (rw [hρ]; simp), ?_⟩
        exact .keep rfl
      ·skip
       have hofo : ofO f.ds.length Mf a0 ⟨a1, a2⟩ = if 0 ≤ (-1 : Int) then some (-1 : Int) else none := by
        rw [ofO, if_pos (by simp at hc86 ⊢; omega)]
        rfl
       refine AW.skip ?_
       refine hK21 _ _ ?_
       skip
       refine AW.regl false [16, 17] (by rfl) fun K29 hK29 => ?_
       simp only [go_sem, Nat.reduceAdd, Nat.reduceEqDiff, Nat.reduceLeDiff, h3, h4]
       refine sC.of en17 (of_calls ht hy Mf hM a0 ⟨a1, a2⟩).here (by rfl) ?_
       simp only [go_sem, Nat.reduceAdd, Nat.reduceEqDiff, Nat.reduceLeDiff, h3, h4]
       refine hK29 _ _ ?_
       conv => enter [5]; simp only [sl1, sl0, sz0, sz1]
       refine AW.regl false [18, 19] (by rfl) fun K30 hK30 => ?_
       simp only [go_sem, Nat.reduceAdd, Nat.reduceEqDiff, Nat.reduceLeDiff, h3, h4]
       refine sC.of en18 (find_calls N ht hn nm).here (by rfl) ?_
       simp only [go_sem, Nat.reduceAdd, Nat.reduceEqDiff, Nat.reduceLeDiff, h3, h4]
       refine hK30 _ _ ?_
       conv => enter [5]; simp only [sl1, sl0, sz0, sz1]
       refine AW.regl false [20] (by rfl) fun K31 hK31 => ?_
       simp only [go_sem, Nat.reduceAdd, Nat.reduceEqDiff, Nat.reduceLeDiff, h3, h4]
       refine sC.of en19 ((rfind_calls f nm (by have := hs.1; omega)).on _).here (by rfl) ?_
       simp only [go_sem, Nat.reduceAdd, Nat.reduceEqDiff, Nat.reduceLeDiff, h3, h4]
       refine hK31 _ _ ?_
       conv => enter [5]; simp only [sl1, sl0, sz0, sz1]
       refine AW.seq_k fun K32 hK32 => ?_
       obtain ⟨hm1, hm2⟩ := max0 (W := (-1)) (o := (ofO f.ds.length Mf a0 ⟨a1, a2⟩)) hofo
       obtain ⟨hm3, hm4⟩ := numA_max (findD f.ds nm)
       refine AW.regtf false 142 (.val (.bool ((((ofO f.ds.length Mf a0 ⟨a1, a2⟩).isSome != decide ((-1) ≥ 0) || (ofO f.ds.length Mf a0 ⟨a1, a2⟩).getD 0 != max 0 (-1)) || (lookN N nm).isSome != decide (numA (findD f.ds nm) ≥ 0)) || ((((lookN N nm).getD 0 : Nat) : Int)) != max 0 (numA (findD f.ds nm))))) (by rfl) ?_ ?_
       ·skip
        cases h124 : ((ofO f.ds.length Mf a0 ⟨a1, a2⟩).isSome != decide ((-1) ≥ 0))
        ·skip
         cases h129 : ((ofO f.ds.length Mf a0 ⟨a1, a2⟩).getD 0 != max 0 (-1))
         ·skip
          cases h135 : ((lookN N nm).isSome != decide (numA (findD f.ds nm) ≥ 0))
          ·skip
           simp only [go_sem, Nat.reduceAdd, Nat.reduceEqDiff, Nat.reduceLeDiff, h3, h4, nb4, beq_dec, mx0, h124, h129, h135]
           try simp [upd_at, h124, h129, h135, List.length_map, len_row, one_row, List.drop_zero, blk_len, dgm_len, port_len, out_len, src_len, file_len, rdgm_get, rblk_get, rsrc_get, rfile_get, dgm_all, blk_all, src_all, file_all, idx51_0, idx51_1, idx51_2, h3, h4, aExtract, nb4, beq_dec, mx0]
          ·skip
           simp only [go_sem, Nat.reduceAdd, Nat.reduceEqDiff, Nat.reduceLeDiff, h3, h4, nb4, beq_dec, mx0, h124, h129, h135]
           try simp [upd_at, h124, h129, h135, List.length_map, len_row, one_row, List.drop_zero, blk_len, dgm_len, port_len, out_len, src_len, file_len, rdgm_get, rblk_get, rsrc_get, rfile_get, dgm_all, blk_all, src_all, file_all, idx51_0, idx51_1, idx51_2, h3, h4, aExtract, nb4, beq_dec, mx0]
         ·skip
          simp only [go_sem, Nat.reduceAdd, Nat.reduceEqDiff, Nat.reduceLeDiff, h3, h4, nb4, beq_dec, mx0, h124, h129]
          try simp [upd_at, h124, h129, List.length_map, len_row, one_row, List.drop_zero, blk_len, dgm_len, port_len, out_len, src_len, file_len, rdgm_get, rblk_get, rsrc_get, rfile_get, dgm_all, blk_all, src_all, file_all, idx51_0, idx51_1, idx51_2, h3, h4, aExtract, nb4, beq_dec, mx0]
        ·skip
         simp only [go_sem, Nat.reduceAdd, Nat.reduceEqDiff, Nat.reduceLeDiff, h3, h4, nb4, beq_dec, mx0, h124]
         try simp [upd_at, h124, List.length_map, len_row, one_row, List.drop_zero, blk_len, dgm_len, port_len, out_len, src_len, file_len, rdgm_get, rblk_get, rsrc_get, rfile_get, dgm_all, blk_all, src_all, file_all, idx51_0, idx51_1, idx51_2, h3, h4, aExtract, nb4, beq_dec, mx0]
       conv => enter [5]; simp only [sz0, sz1]
       refine AW.cond rfl (fun hc142 => ?_) (fun hc142 => ?_)
       ·skip
        rw [hm1, hm2, hN nm, hm3, hm4] at hc142; exact absurd hc142 (by simp)
       ·skip
        refine AW.skip ?_
        refine hK32 _ _ ?_
        have hod1 := order_calls (Γ := GK w G) ht ho Or hO (-1)
        have hod2 := order_calls (Γ := GK w G) ht ho Or hO ((f.ds.length : Nat) : Int)
        have hal : decide (dg = (ordF f).getD []) = true := decide_eq_true hdg
        have hem : orO f.ds.length Or (-1) = [] := by rw [orO, if_pos (by simp)]
        have hen : orO f.ds.length Or ((f.ds.length : Nat) : Int) = [] := by rw [orO, if_pos (by simp)]
        refine AW.regtf false 6 (.val (.bool (true))) (by rfl) ?_ ?_
        ·skip
         simp only [go_sem, Nat.reduceAdd, Nat.reduceEqDiff, Nat.reduceLeDiff, h3, h4, FileM.enc, hal, hem, hen, len_rowN, c0, beq_self_eq_true, List.length_nil, ofC_ptr]
         refine sC.of en20 (dias_calls ht (by omega)).here (by rfl) ?_
         simp only [go_sem, Nat.reduceAdd, Nat.reduceEqDiff, Nat.reduceLeDiff, h3, h4, FileM.enc, hal, hem, hen, len_rowN, c0, beq_self_eq_true, List.length_nil, ofC_ptr]
         refine sC.of en13 ((alike_calls true true dg ((ordF f).getD []) hdl).on _).here (by rfl) ?_
         simp only [go_sem, Nat.reduceAdd, Nat.reduceEqDiff, Nat.reduceLeDiff, h3, h4, FileM.enc, hal, hem, hen, len_rowN, c0, beq_self_eq_true, List.length_nil, ofC_ptr]
         refine sC.of en14 (hod1).here (by rfl) ?_
         simp only [go_sem, Nat.reduceAdd, Nat.reduceEqDiff, Nat.reduceLeDiff, h3, h4, FileM.enc, hal, hem, hen, len_rowN, c0, beq_self_eq_true, List.length_nil, ofC_ptr]
         refine sC.of en14 (hod2).here (by rfl) ?_
         simp only [go_sem, Nat.reduceAdd, Nat.reduceEqDiff, Nat.reduceLeDiff, h3, h4, FileM.enc, hal, hem, hen, len_rowN, c0, beq_self_eq_true, List.length_nil, ofC_ptr]
         refine sC.of en8 ((awake_calls hΓ).on _).here (by rfl) ?_
         simp only [go_sem, Nat.reduceAdd, Nat.reduceEqDiff, Nat.reduceLeDiff, h3, h4, FileM.enc, hal, hem, hen, len_rowN, c0, beq_self_eq_true, List.length_nil, ofC_ptr]
         try simp [upd_at, List.length_map, len_row, one_row, List.drop_zero, blk_len, dgm_len, port_len, out_len, src_len, file_len, rdgm_get, rblk_get, rsrc_get, rfile_get, dgm_all, blk_all, src_all, file_all, idx51_0, idx51_1, idx51_2, h3, h4, aExtract, FileM.enc, hal, hem, hen, len_rowN, c0, beq_self_eq_true, List.length_nil, ofC_ptr]
        conv => enter [5]; simp only [sz0, sz1]
        refine AW.ret ⟨.inr rfl, _, rfl, by first | (simp; done) | (rw [hρ]; simp), ?_⟩
        exact .keep rfl
end Fl
end Go.Proofs.Tryd
