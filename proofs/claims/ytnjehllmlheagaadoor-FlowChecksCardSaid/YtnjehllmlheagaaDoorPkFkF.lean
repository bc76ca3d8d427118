import Derived.Test.YtnjehllmlheagaaDoorPkFkB
import Derived.Test.YtnjehllmlheagaaDoorPkFkE
import Derived.Test.YtnjehllmlheagaaDoorPkFkD
import Derived.Test.YtnjehllmlheagaaDoorPkFkA
/-! Flow: function 59. -/
namespace Go.Proofs.Tryd
set_option linter.unusedSimpArgs false
set_option linter.unusedVariables false
open Go Go.Proofs.Ev
namespace Fl
variable {Γ : List (Nat × List AV)} {w : AV} {G : List (Nat × List AV)}
attribute [local go_sem] true_and List.length_map len_row one_row List.drop_zero blk_len dgm_len port_len out_len src_len file_len rdgm_get rblk_get rsrc_get rfile_get dgm_all blk_all src_all file_all
set_option maxRecDepth 100000 in
theorem rnames_calls (f : FileM) (hf : f.ds.length ≤ 2000) (d : Dgm) (i : Nat) (hfd : f.ds[i]? = some d) (hd1 : d.ins.length ≤ 1000) (hd2 : d.outs.length ≤ 1000) (hnm : NmD d) : APure prog Γ 59 [f.enc, i64 ((i : Nat) : Int)] (.val (.bool (namesM f i d))) := by
 refine APure.of func59 rfl fun σ => ?_
 simp only [ntmps59, List.length_cons, List.length_nil, Nat.reduceAdd, Nat.reduceSub, List.replicate_succ, List.replicate_zero, List.cons_append, List.nil_append]
 have hx : (f.ds.map Dgm.enc)[i]? = some d.enc := by simp [hfd]
 have hlI : d.ins.length ≤ maxLen := by rw [maxLen_eq]; omega
 have hlO : d.outs.length ≤ maxLen := by rw [maxLen_eq]; omega
 have hLl : (portsN d).length ≤ 2000 := by simp [portsN]; omega
 have hlL : (portsN d).length ≤ maxLen := by rw [maxLen_eq]; omega
 refine AW.regl false [2, 4] (by rfl) fun K1 hK1 => ?_
 simp only [go_sem, Nat.reduceAdd, Nat.reduceEqDiff, Nat.reduceLeDiff]
 refine hK1 _ _ ?_
 conv => enter [5]; simp only [sl1, sl0, sz0, sz1]
 refine AW.regl false [5] (by rfl) fun K2 hK2 => ?_
 simp only [go_sem, Nat.reduceAdd, Nat.reduceEqDiff, Nat.reduceLeDiff, FileM.enc, at_row hx]
 refine hK2 _ _ ?_
 conv => enter [5]; simp only [sl1, sl0, sz0, sz1, upd_none, upd_at]
 refine AW.regl false [6] (by rfl) fun K3 hK3 => ?_
 simp only [go_sem, Nat.reduceAdd, Nat.reduceEqDiff, Nat.reduceLeDiff]
 refine hK3 _ _ ?_
 conv => enter [5]; simp only [sl1, sl0, sz0, sz1]
 refine AW.seq_k fun K4 hK4 => ?_
 refine AW.regl false [7] (by rfl) fun K5 hK5 => ?_
 simp only [go_sem, Nat.reduceAdd, Nat.reduceEqDiff, Nat.reduceLeDiff]
 refine hK5 _ _ ?_
 conv => enter [5]; simp only [sl1, sl0, sz0, sz1]
 refine AW.block ?_
 refine AW.loop_wk (α := Nat) (fun p => [.any, (.val (.int .i64 ((i : Nat) : Int))), (.ref σ.length 0), .any, .any, (.ref (σ.length + 1) 0), (.slo false 1 (((d.ins.map (fun p : PortM => p.name)).take p).map str) (σ.length + 2)), (.val (.int .i64 ((p : Nat) : Int))), .any, .any, .any, .any, .any, .any, .any, .any, .any, .any, .any, .any, .any, .any, .any, .any, .any, .any, .any, .any, .any, .any, .any, .any, .any, .any, .any, .any, .any, .any, .any, .any, .any, .any, .any, .any, .any, .any, .any, .any, .any, .any, .any, .any, .any, .any, .any, .any, .any, .any, .any, .any, .any, .any, .any, .any, .any, .any, .any, .any, .any, .any, .any, .any, .any, .any, .any, .any, .any, .any, .any, .any, .any, .any, .any, .any, .any, .any, .any]) (fun p => σ ++ [.cells (FileM.enc f).cells, .cells (Dgm.enc d).cells, .cap p 1]) (fun p => d.ins.length - p) (fun p => p ≤ d.ins.length) 0 ?_ ?_
 ·exact ⟨Nat.zero_le _, by simp [Wk], rfl⟩
 ·intro p hi
  refine AW.seq_k fun K6 hK6 => ?_
  refine AW.regl false [21] (by rfl) fun K7 hK7 => ?_
  simp only [go_sem, Nat.reduceAdd, Nat.reduceEqDiff, Nat.reduceLeDiff, Dgm.enc]
  refine hK7 _ _ ?_
  conv => enter [5]; simp only [sl1, sl0, sz0, sz1]
  refine AW.cond rfl (fun hc21 => ?_) (fun hc21 => ?_)
  ·skip
   have hp1 : p < d.ins.length := by simpa using hc21
   obtain ⟨u, hu⟩ : ∃ z, z = d.ins[p] := ⟨_, rfl⟩
   have hy : (d.ins.map PortM.enc)[p]? = some u.enc := by rw [hu]; simp [hp1]
   have hlen : ((d.ins.map (fun p : PortM => p.name)).take p).length = p := by simp; omega
   have hap := fun σ k => ap_str (l := (d.ins.map (fun p : PortM => p.name)).take p) (by omega) false u.name σ k
   simp only [hlen] at hap
   have htk : (d.ins.map (fun p : PortM => p.name)).take (p + 1) = (d.ins.map (fun p : PortM => p.name)).take p ++ [u.name] := by rw [List.take_succ_eq_append_getElem (by simpa using hp1), List.getElem_map, hu]
   refine AW.skip ?_
   refine hK6 _ _ ?_
   refine AW.seq_k fun K8 hK8 => ?_
   refine AW.block ?_
   refine AW.lastl false [6] (by rfl) fun K hK => ?_
   simp only [go_sem, Nat.reduceAdd, Nat.reduceEqDiff, Nat.reduceLeDiff, Dgm.enc, at_row hy, PortM.enc, hap]
   refine hK _ _ fun env' hw => ?_
   simp only [setL_cons, setL_nil, List.set_cons_zero, List.set_cons_succ] at hw
   refine hK8 _ _ (AW.weaken hw ?_); clear hw
   refine AW.lastl false [7] (by rfl) fun K hK => ?_
   simp only [go_sem, Nat.reduceAdd, Nat.reduceEqDiff, Nat.reduceLeDiff]
   refine hK _ _ fun env' hw => ?_
   simp only [setL_cons, setL_nil, List.set_cons_zero, List.set_cons_succ] at hw
   refine ⟨p + 1, by omega, by omega, ?_, rfl⟩
   refine hw.trans ?_
   simp [Wk, wrap_succ hp1 hlI, htk]
   try omega
  ·skip
   have hp1 : p = d.ins.length := by
    have : ¬ p < d.ins.length := by simpa using hc21
    omega
   refine AW.exit ?_
   refine hK4 _ _ ?_
   refine AW.seq_k fun K9 hK9 => ?_
   rw [hp1, List.take_of_length_le (by simp)]
   refine AW.regl false [8] (by rfl) fun K10 hK10 => ?_
   simp only [go_sem, Nat.reduceAdd, Nat.reduceEqDiff, Nat.reduceLeDiff]
   refine hK10 _ _ ?_
   conv => enter [5]; simp only [sl1, sl0, sz0, sz1]
   refine AW.block ?_
   refine AW.loop_wk (α := Nat) (fun q => [.any, (.val (.int .i64 ((i : Nat) : Int))), (.ref σ.length 0), .any, .any, (.ref (σ.length + 1) 0), (.slo false 1 (((d.ins.map (fun p : PortM => p.name)) ++ (d.outs.map (fun o : OutM => o.port.name)).take q).map str) (σ.length + 2)), .any, (.val (.int .i64 ((q : Nat) : Int))), .any, .any, .any, .any, .any, .any, .any, .any, .any, .any, .any, .any, .any, .any, .any, .any, .any, .any, .any, .any, .any, .any, .any, .any, .any, .any, .any, .any, .any, .any, .any, .any, .any, .any, .any, .any, .any, .any, .any, .any, .any, .any, .any, .any, .any, .any, .any, .any, .any, .any, .any, .any, .any, .any, .any, .any, .any, .any, .any, .any, .any, .any, .any, .any, .any, .any, .any, .any, .any, .any, .any, .any, .any, .any, .any, .any, .any, .any]) (fun q => σ ++ [.cells (FileM.enc f).cells, .cells (Dgm.enc d).cells, .cap (d.ins.length + q) 1]) (fun q => d.outs.length - q) (fun q => q ≤ d.outs.length) 0 ?_ ?_
   ·exact ⟨Nat.zero_le _, by simp [Wk], rfl⟩
   ·intro q hi
    refine AW.seq_k fun K11 hK11 => ?_
    refine AW.regl false [37] (by rfl) fun K12 hK12 => ?_
    simp only [go_sem, Nat.reduceAdd, Nat.reduceEqDiff, Nat.reduceLeDiff, Dgm.enc]
    refine hK12 _ _ ?_
    conv => enter [5]; simp only [sl1, sl0, sz0, sz1]
    refine AW.cond rfl (fun hc37 => ?_) (fun hc37 => ?_)
    ·skip
     have hq1 : q < d.outs.length := by simpa using hc37
     obtain ⟨u, hu⟩ : ∃ z, z = d.outs[q] := ⟨_, rfl⟩
     have hy : (d.outs.map OutM.enc)[q]? = some u.enc := by rw [hu]; simp [hq1]
     have hlen : ((d.ins.map (fun p : PortM => p.name)) ++ (d.outs.map (fun o : OutM => o.port.name)).take q).length = d.ins.length + q := by simp; omega
     have hap := fun σ k => ap_str (l := (d.ins.map (fun p : PortM => p.name)) ++ (d.outs.map (fun o : OutM => o.port.name)).take q) (by omega) false u.port.name σ k
     simp only [hlen] at hap
     have htk : (d.outs.map (fun o : OutM => o.port.name)).take (q + 1) = (d.outs.map (fun o : OutM => o.port.name)).take q ++ [u.port.name] := by rw [List.take_succ_eq_append_getElem (by simpa using hq1), List.getElem_map, hu]
     refine AW.skip ?_
     refine hK11 _ _ ?_
     refine AW.seq_k fun K13 hK13 => ?_
     refine AW.block ?_
     refine AW.lastl false [6] (by rfl) fun K hK => ?_
     simp only [go_sem, Nat.reduceAdd, Nat.reduceEqDiff, Nat.reduceLeDiff, Dgm.enc, at_row hy, OutM.enc, hap]
     refine hK _ _ fun env' hw => ?_
     simp only [setL_cons, setL_nil, List.set_cons_zero, List.set_cons_succ] at hw
     refine hK13 _ _ (AW.weaken hw ?_); clear hw
     refine AW.lastl false [8] (by rfl) fun K hK => ?_
     simp only [go_sem, Nat.reduceAdd, Nat.reduceEqDiff, Nat.reduceLeDiff]
     refine hK _ _ fun env' hw => ?_
     simp only [setL_cons, setL_nil, List.set_cons_zero, List.set_cons_succ] at hw
     refine ⟨q + 1, by omega, by omega, ?_, rfl⟩
     refine hw.trans ?_
     simp [Wk, wrap_succ hq1 hlO, htk]
     try omega
    ·skip
     have hq1 : q = d.outs.length := by
      have : ¬ q < d.outs.length := by simpa using hc37
      omega
     refine AW.exit ?_
     refine hK9 _ _ ?_
     refine AW.seq_k fun K14 hK14 => ?_
     rw [hq1, List.take_of_length_le (by simp)]
     refine AW.stillT 6 rfl ?_
     simp only [still_slof, List.set_cons_zero, List.set_cons_succ]
     obtain ⟨L, hL⟩ : ∃ z, z = portsN d := ⟨_, rfl⟩
     rw [row_false', show (d.ins.map (fun p : PortM => p.name)) ++ (d.outs.map (fun o : OutM => o.port.name)) = L from hL.symm]
     rw [← hL] at hLl hlL
     refine AW.regl false [9] (by rfl) fun K15 hK15 => ?_
     simp only [go_sem, Nat.reduceAdd, Nat.reduceEqDiff, Nat.reduceLeDiff]
     refine hK15 _ _ ?_
     conv => enter [5]; simp only [sl1, sl0, sz0, sz1]
     refine AW.block ?_
     refine AW.loop_wk (α := Nat) (fun k => [.any, (.val (.int .i64 ((i : Nat) : Int))), (.ref σ.length 0), .any, .any, (.ref (σ.length + 1) 0), (rowAV 1 false (L.map str)), .any, .any, (.val (.int .i64 ((k : Nat) : Int))), .any, .any, .any, .any, .any, .any, .any, .any, .any, .any, .any, .any, .any, .any, .any, .any, .any, .any, .any, .any, .any, .any, .any, .any, .any, .any, .any, .any, .any, .any, .any, .any, .any, .any, .any, .any, .any, .any, .any, .any, .any, .any, .any, .any, .any, .any, .any, .any, .any, .any, .any, .any, .any, .any, .any, .any, .any, .any, .any, .any, .any, .any, .any, .any, .any, .any, .any, .any, .any, .any, .any, .any, .any, .any, .any, .any, .any]) (fun k => σ ++ [.cells (FileM.enc f).cells, .cells (Dgm.enc d).cells, .cap (d.ins.length + d.outs.length) 1]) (fun k => L.length - k) (fun k => k ≤ L.length ∧ (L.take k).all A.nameM = true ∧ (L.take k).Nodup) 0 ?_ ?_
     ·exact ⟨⟨Nat.zero_le _, ⟨rfl, List.nodup_nil⟩⟩, by simp [Wk], rfl⟩
     ·rintro k ⟨hk, hal, hnd⟩
      refine AW.seq_k fun K16 hK16 => ?_
      refine AW.regl false [53] (by rfl) fun K17 hK17 => ?_
      simp only [go_sem, Nat.reduceAdd, Nat.reduceEqDiff, Nat.reduceLeDiff]
      refine hK17 _ _ ?_
      conv => enter [5]; simp only [sl1, sl0, sz0, sz1]
      refine AW.cond rfl (fun hc53 => ?_) (fun hc53 => ?_)
      ·skip
       have hk1 : k < L.length := by simpa using hc53
       obtain ⟨s, hs⟩ : ∃ z, z = L[k] := ⟨_, rfl⟩
       have hz : (L.map str)[k]? = some (str s) := by rw [hs]; simp [hk1]
       have hsz : s.size ≤ 65535 := hnm.ports s (by rw [← hL, hs]; exact List.getElem_mem hk1)
       refine AW.skip ?_
       refine hK16 _ _ ?_
       refine AW.seq_k fun K18 hK18 => ?_
       refine AW.block ?_
       refine AW.seq_k fun K19 hK19 => ?_
       refine AW.regl false [61] (by rfl) fun K20 hK20 => ?_
       simp only [go_sem, Nat.reduceAdd, Nat.reduceEqDiff, Nat.reduceLeDiff, at_row hz]
       refine sC.of en83 ((A.rname_calls s (by omega)).on _).here (by rfl) ?_
       simp only [go_sem, Nat.reduceAdd, Nat.reduceEqDiff, Nat.reduceLeDiff, at_row hz]
       refine hK20 _ _ ?_
       conv => enter [5]; simp only [sl1, sl0, sz0, sz1]
       refine AW.cond rfl (fun hc61 => ?_) (fun hc61 => ?_)
       ·skip
        have hbad : A.nameM s = false := by simpa using hc61
        refine AW.regl false [4] (by rfl) fun K21 hK21 => ?_
        simp only [go_sem, Nat.reduceAdd, Nat.reduceEqDiff, Nat.reduceLeDiff]
        refine hK21 _ _ ?_
        conv => enter [5]; simp only [sl1, sl0, sz0, sz1]
        refine AW.ret ⟨.inr rfl, _, rfl, by simp, ?_⟩
        refine frzB ?_
        unfold namesM
        rw [← hL, all_at hk1 (by rw [← hs]; exact hbad)]
        rfl
       ·skip
        have hok : A.nameM s = true := by simpa using hc61
        refine AW.skip ?_
        refine hK19 _ _ ?_
        refine AW.regl false [10] (by rfl) fun K22 hK22 => ?_
        simp only [go_sem, Nat.reduceAdd, Nat.reduceEqDiff, Nat.reduceLeDiff]
        refine hK22 _ _ ?_
        conv => enter [5]; simp only [sl1, sl0, sz0, sz1]
        refine AW.block ?_
        refine AW.loop_wk (α := Nat) (fun j => [.any, (.val (.int .i64 ((i : Nat) : Int))), (.ref σ.length 0), .any, .any, (.ref (σ.length + 1) 0), (rowAV 1 false (L.map str)), .any, .any, (.val (.int .i64 ((k : Nat) : Int))), (.val (.int .i64 ((j : Nat) : Int))), .any, .any, .any, .any, .any, .any, .any, .any, .any, .any, .any, .any, .any, .any, .any, .any, .any, .any, .any, .any, .any, .any, .any, .any, .any, .any, .any, .any, .any, .any, .any, .any, .any, .any, .any, .any, .any, .any, .any, .any, .any, .any, .any, .any, .any, .any, .any, .any, .any, .any, .any, .any, .any, .any, .any, .any, .any, .any, .any, .any, .any, .any, .any, .any, .any, .any, .any, .any, .any, .any, .any, .any, .any, .any, .any, .any]) (fun j => σ ++ [.cells (FileM.enc f).cells, .cells (Dgm.enc d).cells, .cap (d.ins.length + d.outs.length) 1]) (fun j => k - j) (fun j => j ≤ k ∧ s ∉ L.take j) 0 ?_ ?_
        ·exact ⟨⟨Nat.zero_le _, List.not_mem_nil⟩, by simp [Wk], rfl⟩
        ·rintro j ⟨hj, hni⟩
         refine AW.seq_k fun K23 hK23 => ?_
         refine AW.regl false [64] (by rfl) fun K24 hK24 => ?_
         simp only [go_sem, Nat.reduceAdd, Nat.reduceEqDiff, Nat.reduceLeDiff]
         refine hK24 _ _ ?_
         conv => enter [5]; simp only [sl1, sl0, sz0, sz1]
         refine AW.cond rfl (fun hc64 => ?_) (fun hc64 => ?_)
         ·skip
          have hj1 : j < k := by simpa using hc64
          have hjL : j < L.length := by omega
          have hr : (L.map str)[j]? = some (str L[j]) := by simp [hjL]
          refine AW.skip ?_
          refine hK23 _ _ ?_
          refine AW.seq_k fun K25 hK25 => ?_
          refine AW.block ?_
          refine AW.regdl mixed false [75] (by kernel_rfl) (by rfl) fun K26 hK26 => ?_
          simp only [go_sem, Nat.reduceAdd, Nat.reduceEqDiff, Nat.reduceLeDiff, at_row hz, at_row hr, ba_beqL]
          refine hK26 _ ?_
          conv => enter [5]; simp only [sl1, sl0, sz0, sz1]
          refine AW.cond rfl (fun hc75 => ?_) (fun hc75 => ?_)
          ·skip
           have heq : L[j] = s := by simpa using hc75
           refine AW.regl false [4] (by rfl) fun K27 hK27 => ?_
           simp only [go_sem, Nat.reduceAdd, Nat.reduceEqDiff, Nat.reduceLeDiff]
           refine hK27 _ _ ?_
           conv => enter [5]; simp only [sl1, sl0, sz0, sz1]
           refine AW.ret ⟨.inr rfl, _, rfl, by simp, ?_⟩
           refine frzB ?_
           unfold namesM
           rw [← hL, decide_eq_false (not_nodup hj1 hk1 (by rw [heq, hs]))]
           simp
          ·skip
           have hne : ¬ L[j] = s := by simpa using hc75
           refine AW.skip ?_
           refine hK25 _ _ ?_
           refine AW.lastl false [10] (by rfl) fun K hK => ?_
           simp only [go_sem, Nat.reduceAdd, Nat.reduceEqDiff, Nat.reduceLeDiff]
           refine hK _ _ fun env' hw => ?_
           simp only [setL_cons, setL_nil, List.set_cons_zero, List.set_cons_succ] at hw
           refine ⟨j + 1, by omega, ⟨by omega, not_mem_snoc (show j < L.length by omega) hni hne⟩, ?_, rfl⟩
           refine hw.trans ?_
           simp [Wk, wrap_succ hj1 (show k ≤ maxLen by omega)]
           try omega
         ·skip
          have hj1 : j = k := by
           have : ¬ j < k := by simpa using hc64
           omega
          refine AW.exit ?_
          refine hK18 _ _ ?_
          refine AW.lastl false [9] (by rfl) fun K hK => ?_
          simp only [go_sem, Nat.reduceAdd, Nat.reduceEqDiff, Nat.reduceLeDiff]
          refine hK _ _ fun env' hw => ?_
          simp only [setL_cons, setL_nil, List.set_cons_zero, List.set_cons_succ] at hw
          refine ⟨k + 1, by omega, ⟨by omega, ⟨all_snoc hk1 hal (by rw [← hs]; exact hok), nodup_snoc hk1 hnd (by rw [← hs]; rwa [hj1] at hni)⟩⟩, ?_, rfl⟩
          refine hw.trans ?_
          simp [Wk, wrap_succ hk1 hlL]
          try omega
      ·skip
       have hk1 : k = L.length := by
        have : ¬ k < L.length := by simpa using hc53
        omega
       have hall : L.all A.nameM = true ∧ L.Nodup := by
        rw [hk1, List.take_length] at hal hnd
        exact ⟨hal, hnd⟩
       refine AW.exit ?_
       refine hK14 _ _ ?_
       refine AW.regtf false 4 (.val (.bool ((A.nameM d.name) && (numA (findD f.ds d.name) == ((i : Nat) : Int))))) (by rfl) ?_ ?_
       ·skip
        cases h78 : ((A.nameM d.name))
        ·skip
         simp only [go_sem, Nat.reduceAdd, Nat.reduceEqDiff, Nat.reduceLeDiff, Dgm.enc, h78]
         refine sC.of en83 ((A.rname_calls d.name (by have := hnm.name; omega)).on _).here (by rfl) ?_
         simp only [go_sem, Nat.reduceAdd, Nat.reduceEqDiff, Nat.reduceLeDiff, Dgm.enc, h78]
         try simp [upd_at, h78, List.length_map, len_row, one_row, List.drop_zero, blk_len, dgm_len, port_len, out_len, src_len, file_len, rdgm_get, rblk_get, rsrc_get, rfile_get, dgm_all, blk_all, src_all, file_all, Dgm.enc]
        ·skip
         simp only [go_sem, Nat.reduceAdd, Nat.reduceEqDiff, Nat.reduceLeDiff, Dgm.enc, h78]
         refine sC.of en83 ((A.rname_calls d.name (by have := hnm.name; omega)).on _).here (by rfl) ?_
         simp only [go_sem, Nat.reduceAdd, Nat.reduceEqDiff, Nat.reduceLeDiff, Dgm.enc, h78]
         refine sC.of en19 ((rfind_calls f d.name hf).on _).here (by rfl) ?_
         simp only [go_sem, Nat.reduceAdd, Nat.reduceEqDiff, Nat.reduceLeDiff, Dgm.enc, h78]
         try simp [upd_at, h78, List.length_map, len_row, one_row, List.drop_zero, blk_len, dgm_len, port_len, out_len, src_len, file_len, rdgm_get, rblk_get, rsrc_get, rfile_get, dgm_all, blk_all, src_all, file_all, Dgm.enc]
       conv => enter [5]; simp only [sz0, sz1]
       refine AW.ret ⟨.inr rfl, _, rfl, by simp, ?_⟩
       refine frzB ?_
       unfold namesM
       rw [← hL, hall.1, decide_eq_true hall.2, numA_eq]
       simp
end Fl
end Go.Proofs.Tryd
/-! Flow: function 60. -/
namespace Go.Proofs.Tryd
set_option linter.unusedSimpArgs false
set_option linter.unusedVariables false
open Go Go.Proofs.Ev
namespace Fl
variable {Γ : List (Nat × List AV)} {w : AV} {G : List (Nat × List AV)}
attribute [local go_sem] true_and List.length_map len_row one_row List.drop_zero blk_len dgm_len port_len out_len src_len file_len rdgm_get rblk_get rsrc_get rfile_get dgm_all blk_all src_all file_all
set_option maxRecDepth 100000 in
theorem rasked_calls (f : FileM) (d : Dgm) (n : Nat) (hw : ∀ b ∈ d.blocks, WfB f b) (b : Blk) (hwb : WfB f b) (hD : ∀ s ∈ b.src, Dp d n s) (hl : b.src.length ≤ 2000) (ha : b.kind = 7 → (insT f b).length = b.src.length) : APure prog Γ 60 [f.enc, d.enc, b.enc] (.val (.bool (askB f b (b.src.map (typ f d n))))) := by
 refine APure.of func60 rfl fun σ => ?_
 simp only [ntmps60, List.length_cons, List.length_nil, Nat.reduceAdd, Nat.reduceSub, List.replicate_succ, List.replicate_zero, List.cons_append, List.nil_append]
 have hlb : b.src.length ≤ maxLen := by rw [maxLen_eq]; omega
 refine AW.regl false [3, 4, 5, 6] (by rfl) fun K1 hK1 => ?_
 simp only [go_sem, Nat.reduceAdd, Nat.reduceEqDiff, Nat.reduceLeDiff]
 refine hK1 _ _ ?_
 conv => enter [5]; simp only [sl1, sl0, sz0, sz1]
 refine AW.regl false [7] (by rfl) fun K2 hK2 => ?_
 simp only [go_sem, Nat.reduceAdd, Nat.reduceEqDiff, Nat.reduceLeDiff]
 refine hK2 _ _ ?_
 conv => enter [5]; simp only [sl1, sl0, sz0, sz1]
 refine AW.cap 1 ?_
 try simp only [List.append_assoc, List.cons_append, List.nil_append]
 refine AW.ownT 7 (σ.length + 3) rfl ((app_get _ _ 3).trans rfl) (by decide) ?_
 try simp only [List.set_cons_zero, List.set_cons_succ]
 refine AW.seq_k fun K3 hK3 => ?_
 refine AW.regl false [8] (by rfl) fun K4 hK4 => ?_
 simp only [go_sem, Nat.reduceAdd, Nat.reduceEqDiff, Nat.reduceLeDiff]
 refine hK4 _ _ ?_
 conv => enter [5]; simp only [sl1, sl0, sz0, sz1]
 refine AW.block ?_
 refine AW.loop_wk (α := Nat) (fun i => [.any, .any, .any, (.ref σ.length 0), (.ref (σ.length + 1) 0), (.ref (σ.length + 2) 0), .any, (.slo true 1 (((b.src.take i).map (typ f d n)).map intA) (σ.length + 3)), (.val (.int .i64 ((i : Nat) : Int))), .any, .any, .any, .any, .any, .any, .any, .any, .any, .any, .any, .any, .any, .any, .any, .any, .any, .any, .any, .any, .any, .any, .any, .any, .any, .any, .any, .any, .any, .any, .any, .any, .any, .any, .any, .any, .any, .any, .any, .any, .any, .any, .any, .any, .any, .any, .any, .any, .any, .any, .any, .any, .any, .any, .any, .any, .any, .any, .any, .any, .any, .any, .any, .any, .any, .any, .any, .any, .any, .any, .any, .any, .any, .any, .any, .any, .any, .any, .any, .any, .any, .any, .any, .any, .any, .any, .any, .any, .any, .any, .any, .any, .any, .any, .any, .any, .any, .any, .any, .any, .any, .any, .any, .any, .any, .any, .any, .any, .any]) (fun i => σ ++ [.cells (FileM.enc f).cells, .cells (Dgm.enc d).cells, .cells (Blk.enc b).cells, .cap i 1]) (fun i => b.src.length - i) (fun i => i ≤ b.src.length) 0 ?_ ?_
 ·exact ⟨Nat.zero_le _, by simp [Wk], rfl⟩
 ·intro i hi
  refine AW.seq_k fun K5 hK5 => ?_
  refine AW.regl false [14] (by rfl) fun K6 hK6 => ?_
  simp only [go_sem, Nat.reduceAdd, Nat.reduceEqDiff, Nat.reduceLeDiff, Blk.enc]
  refine hK6 _ _ ?_
  conv => enter [5]; simp only [sl1, sl0, sz0, sz1]
  refine AW.cond rfl (fun hc14 => ?_) (fun hc14 => ?_)
  ·skip
   have hi1 : i < b.src.length := by simpa using hc14
   obtain ⟨s, hsi⟩ : ∃ z, z = b.src[i] := ⟨_, rfl⟩
   have hx : (b.src.map Src.enc)[i]? = some s.enc := by rw [hsi]; simp [hi1]
   have hsm : s ∈ b.src := by rw [hsi]; exact List.getElem_mem hi1
   refine AW.skip ?_
   refine hK5 _ _ ?_
   refine AW.seq_k fun K7 hK7 => ?_
   refine AW.block ?_
   have hlen : ((b.src.take i).map (typ f d n)).length = i := by simp; omega
   have hap := fun σ k => ap_int (l := (b.src.take i).map (typ f d n)) (by omega) true (typ f d n s) σ k
   simp only [hlen] at hap
   have htk : ((b.src.take (i + 1)).map (typ f d n)) = (b.src.take i).map (typ f d n) ++ [typ f d n s] := by rw [List.take_succ_eq_append_getElem hi1, List.map_append, hsi]; rfl
   refine AW.lastml mixed false [7] 10 (by kernel_rfl) (by kernel_rfl) (by rfl) fun K hK => ?_
   simp only [go_sem, Nat.reduceAdd, Nat.reduceEqDiff, Nat.reduceLeDiff, Blk.enc, at_row hx, hap]
   refine qC.of en16 ((rtype_calls f d hw n s (hD s hsm)).on _).here (by rfl) ?_
   simp only [go_sem, Nat.reduceAdd, Nat.reduceEqDiff, Nat.reduceLeDiff, Blk.enc, at_row hx, hap]
   refine hK _ _ fun env' hw => ?_
   simp only [setL_cons, setL_nil, List.set_cons_zero, List.set_cons_succ, upd_none, upd_at] at hw
   refine hK7 _ _ (AW.weaken hw ?_); clear hw
   refine AW.lastl false [8] (by rfl) fun K hK => ?_
   simp only [go_sem, Nat.reduceAdd, Nat.reduceEqDiff, Nat.reduceLeDiff]
   refine hK _ _ fun env' hw => ?_
   simp only [setL_cons, setL_nil, List.set_cons_zero, List.set_cons_succ] at hw
   refine ⟨i + 1, by omega, by omega, ?_, rfl⟩
   refine hw.trans ?_
   simp [Wk, wrap_succ hi1 hlb, htk]
   try omega
  ·skip
   have hi1 : i = b.src.length := by
    have : ¬ i < b.src.length := by simpa using hc14
    omega
   refine AW.exit ?_
   refine hK3 _ _ ?_
   refine AW.seq_k fun K8 hK8 => ?_
   rw [hi1, List.take_length]
   refine AW.stillT 7 rfl ?_
   simp only [still_slo, List.set_cons_zero, List.set_cons_succ]
   obtain ⟨T, hT⟩ : ∃ z, z = b.src.map (typ f d n) := ⟨_, rfl⟩
   have hTl : T.length = b.src.length := by rw [hT]; simp
   rw [← hT]
   refine AW.regl false [29] (by rfl) fun K9 hK9 => ?_
   simp only [go_sem, Nat.reduceAdd, Nat.reduceEqDiff, Nat.reduceLeDiff, Blk.enc]
   refine hK9 _ _ ?_
   conv => enter [5]; simp only [sl1, sl0, sz0, sz1]
   refine AW.block ?_
   refine AW.seq_k fun K10 hK10 => ?_
   refine AW.regl false [30] (by rfl) fun K11 hK11 => ?_
   simp only [go_sem, Nat.reduceAdd, Nat.reduceEqDiff, Nat.reduceLeDiff]
   refine hK11 _ _ ?_
   conv => enter [5]; simp only [sl1, sl0, sz0, sz1]
   refine AW.cond rfl (fun hc30 => ?_) (fun hc30 => ?_)
   ·skip
    have hs30 := hc30
    refine AW.skip ?_
    refine hK10 _ _ ?_
    refine AW.cond rfl (fun hc30 => ?_) (fun hc30 => ?_)
    ·skip
     have e24 : ((b.kind == 2) || (b.kind == 4)) = true := by rw [hs30]; rfl
     have hl1 := hwb.one (.inl (by simpa using hs30))
     refine AW.regdl mixed false [6] (by kernel_rfl) (by rfl) fun K12 hK12 => ?_
     simp only [go_sem, Nat.reduceAdd, Nat.reduceEqDiff, Nat.reduceLeDiff, Blk.enc, rowT0 (show 0 < T.length by omega)]
     refine hK12 _ ?_
     conv => enter [5]; simp only [sl1, sl0, sz0, sz1]
     refine AW.ret ⟨.inr rfl, _, rfl, by simp, ?_⟩
     refine frzB ?_
     unfold askB
     rw [if_pos e24]
    ·skip
     rw [hs30] at hc30; cases hc30
   ·skip
    have n2 : ¬ b.kind = 2 := by simpa using hc30
    refine AW.lastl false [30] (by rfl) fun K hK => ?_
    simp only [go_sem, Nat.reduceAdd, Nat.reduceEqDiff, Nat.reduceLeDiff]
    refine hK _ _ fun env' hw => ?_
    simp only [setL_cons, setL_nil, List.set_cons_zero, List.set_cons_succ] at hw
    refine hK10 _ _ (AW.weaken hw ?_); clear hw
    refine AW.cond rfl (fun hc30 => ?_) (fun hc30 => ?_)
    ·skip
     have e24 : ((b.kind == 2) || (b.kind == 4)) = true := by rw [hc30]; simp
     have hl1 := hwb.one (.inr (by simpa using hc30))
     refine AW.regdl mixed false [6] (by kernel_rfl) (by rfl) fun K13 hK13 => ?_
     simp only [go_sem, Nat.reduceAdd, Nat.reduceEqDiff, Nat.reduceLeDiff, Blk.enc, rowT0 (show 0 < T.length by omega)]
     refine hK13 _ ?_
     conv => enter [5]; simp only [sl1, sl0, sz0, sz1]
     refine AW.ret ⟨.inr rfl, _, rfl, by simp, ?_⟩
     refine frzB ?_
     unfold askB
     rw [if_pos e24]
    ·skip
     have n24 : ¬ ((b.kind == 2) || (b.kind == 4)) = true := by
      have h4 : ¬ b.kind = 4 := by simpa using hc30
      simp [n2, h4]
     refine AW.regl false [39] (by rfl) fun K14 hK14 => ?_
     simp only [go_sem, Nat.reduceAdd, Nat.reduceEqDiff, Nat.reduceLeDiff]
     refine hK14 _ _ ?_
     conv => enter [5]; simp only [sl1, sl0, sz0, sz1]
     refine AW.cond rfl (fun hc39 => ?_) (fun hc39 => ?_)
     ·skip
      have hl1 := hwb.bin (by simpa using hc39)
      refine AW.regtdf mixed false 6 (.val (.bool ((((T.getD 0 0) == (T.getD 1 0)) && ((decide (b.op > 4)) || ((T.getD 0 0) == 1))) && ((decide (b.op < 7)) || ((T.getD 0 0) == 0))))) (by kernel_rfl) (by rfl) ?_ ?_
      ·skip
       cases h47 : (((T.getD 0 0) == (T.getD 1 0)))
       ·skip
        simp only [go_sem, Nat.reduceAdd, Nat.reduceEqDiff, Nat.reduceLeDiff, Blk.enc, rowT0 (show 0 < T.length by omega), rowT1 (show 1 < T.length by omega), h47]
        try simp [upd_at, h47, List.length_map, len_row, one_row, List.drop_zero, blk_len, dgm_len, port_len, out_len, src_len, file_len, rdgm_get, rblk_get, rsrc_get, rfile_get, dgm_all, blk_all, src_all, file_all, Blk.enc, rowT0 (show 0 < T.length by omega), rowT1 (show 1 < T.length by omega)]
       ·skip
        cases h51 : ((decide (b.op > 4)))
        ·skip
         cases h56 : (((T.getD 0 0) == 1))
         ·skip
          simp only [go_sem, Nat.reduceAdd, Nat.reduceEqDiff, Nat.reduceLeDiff, Blk.enc, rowT0 (show 0 < T.length by omega), rowT1 (show 1 < T.length by omega), h47, h51, h56]
          try simp [upd_at, h47, h51, h56, List.length_map, len_row, one_row, List.drop_zero, blk_len, dgm_len, port_len, out_len, src_len, file_len, rdgm_get, rblk_get, rsrc_get, rfile_get, dgm_all, blk_all, src_all, file_all, Blk.enc, rowT0 (show 0 < T.length by omega), rowT1 (show 1 < T.length by omega)]
         ·skip
          cases h62 : ((decide (b.op < 7)))
          ·skip
           simp only [go_sem, Nat.reduceAdd, Nat.reduceEqDiff, Nat.reduceLeDiff, Blk.enc, rowT0 (show 0 < T.length by omega), rowT1 (show 1 < T.length by omega), h47, h51, h56, h62]
           try simp [upd_at, h47, h51, h56, h62, List.length_map, len_row, one_row, List.drop_zero, blk_len, dgm_len, port_len, out_len, src_len, file_len, rdgm_get, rblk_get, rsrc_get, rfile_get, dgm_all, blk_all, src_all, file_all, Blk.enc, rowT0 (show 0 < T.length by omega), rowT1 (show 1 < T.length by omega)]
          ·skip
           simp only [go_sem, Nat.reduceAdd, Nat.reduceEqDiff, Nat.reduceLeDiff, Blk.enc, rowT0 (show 0 < T.length by omega), rowT1 (show 1 < T.length by omega), h47, h51, h56, h62]
           try simp [upd_at, h47, h51, h56, h62, List.length_map, len_row, one_row, List.drop_zero, blk_len, dgm_len, port_len, out_len, src_len, file_len, rdgm_get, rblk_get, rsrc_get, rfile_get, dgm_all, blk_all, src_all, file_all, Blk.enc, rowT0 (show 0 < T.length by omega), rowT1 (show 1 < T.length by omega)]
        ·skip
         cases h62 : ((decide (b.op < 7)))
         ·skip
          simp only [go_sem, Nat.reduceAdd, Nat.reduceEqDiff, Nat.reduceLeDiff, Blk.enc, rowT0 (show 0 < T.length by omega), rowT1 (show 1 < T.length by omega), h47, h51, h62]
          try simp [upd_at, h47, h51, h62, List.length_map, len_row, one_row, List.drop_zero, blk_len, dgm_len, port_len, out_len, src_len, file_len, rdgm_get, rblk_get, rsrc_get, rfile_get, dgm_all, blk_all, src_all, file_all, Blk.enc, rowT0 (show 0 < T.length by omega), rowT1 (show 1 < T.length by omega)]
         ·skip
          simp only [go_sem, Nat.reduceAdd, Nat.reduceEqDiff, Nat.reduceLeDiff, Blk.enc, rowT0 (show 0 < T.length by omega), rowT1 (show 1 < T.length by omega), h47, h51, h62]
          try simp [upd_at, h47, h51, h62, List.length_map, len_row, one_row, List.drop_zero, blk_len, dgm_len, port_len, out_len, src_len, file_len, rdgm_get, rblk_get, rsrc_get, rfile_get, dgm_all, blk_all, src_all, file_all, Blk.enc, rowT0 (show 0 < T.length by omega), rowT1 (show 1 < T.length by omega)]
      conv => enter [5]; simp only [sz0, sz1]
      refine AW.ret ⟨.inr rfl, _, rfl, by simp, ?_⟩
      refine frzB ?_
      unfold askB
      rw [if_neg n24, if_pos hc39]
     ·skip
      refine AW.regl false [70] (by rfl) fun K16 hK16 => ?_
      simp only [go_sem, Nat.reduceAdd, Nat.reduceEqDiff, Nat.reduceLeDiff]
      refine hK16 _ _ ?_
      conv => enter [5]; simp only [sl1, sl0, sz0, sz1]
      refine AW.cond rfl (fun hc70 => ?_) (fun hc70 => ?_)
      ·skip
       have hl1 := hwb.two (by simpa using hc70)
       refine AW.regdl mixed false [6] (by kernel_rfl) (by rfl) fun K17 hK17 => ?_
       simp only [go_sem, Nat.reduceAdd, Nat.reduceEqDiff, Nat.reduceLeDiff, rowT0 (show 0 < T.length by omega), rowT1 (show 1 < T.length by omega)]
       refine hK17 _ ?_
       conv => enter [5]; simp only [sl1, sl0, sz0, sz1]
       refine AW.ret ⟨.inr rfl, _, rfl, by simp, ?_⟩
       refine frzB ?_
       unfold askB
       rw [if_neg n24, if_neg (ne_true_of_eq_false hc39), if_pos hc70]
      ·skip
       refine AW.regl false [79] (by rfl) fun K18 hK18 => ?_
       simp only [go_sem, Nat.reduceAdd, Nat.reduceEqDiff, Nat.reduceLeDiff]
       refine hK18 _ _ ?_
       conv => enter [5]; simp only [sl1, sl0, sz0, sz1]
       refine AW.cond rfl (fun hc79 => ?_) (fun hc79 => ?_)
       ·skip
        have hl1 := hwb.three (by simpa using hc79)
        refine AW.regtdf mixed false 6 (.val (.bool (((T.getD 0 0) == 1) && ((T.getD 1 0) == (T.getD 2 0))))) (by kernel_rfl) (by rfl) ?_ ?_
        ·skip
         cases h84 : (((T.getD 0 0) == 1))
         ·skip
          simp only [go_sem, Nat.reduceAdd, Nat.reduceEqDiff, Nat.reduceLeDiff, rowT0 (show 0 < T.length by omega), rowT1 (show 1 < T.length by omega), rowT2 (show 2 < T.length by omega), h84]
          try simp [upd_at, h84, List.length_map, len_row, one_row, List.drop_zero, blk_len, dgm_len, port_len, out_len, src_len, file_len, rdgm_get, rblk_get, rsrc_get, rfile_get, dgm_all, blk_all, src_all, file_all, rowT0 (show 0 < T.length by omega), rowT1 (show 1 < T.length by omega), rowT2 (show 2 < T.length by omega)]
         ·skip
          simp only [go_sem, Nat.reduceAdd, Nat.reduceEqDiff, Nat.reduceLeDiff, rowT0 (show 0 < T.length by omega), rowT1 (show 1 < T.length by omega), rowT2 (show 2 < T.length by omega), h84]
          try simp [upd_at, h84, List.length_map, len_row, one_row, List.drop_zero, blk_len, dgm_len, port_len, out_len, src_len, file_len, rdgm_get, rblk_get, rsrc_get, rfile_get, dgm_all, blk_all, src_all, file_all, rowT0 (show 0 < T.length by omega), rowT1 (show 1 < T.length by omega), rowT2 (show 2 < T.length by omega)]
        conv => enter [5]; simp only [sz0, sz1]
        refine AW.ret ⟨.inr rfl, _, rfl, by simp, ?_⟩
        refine frzB ?_
        unfold askB
        rw [if_neg n24, if_neg (ne_true_of_eq_false hc39), if_neg (ne_true_of_eq_false hc70), if_pos hc79]
       ·skip
        refine AW.regl false [94] (by rfl) fun K20 hK20 => ?_
        simp only [go_sem, Nat.reduceAdd, Nat.reduceEqDiff, Nat.reduceLeDiff]
        refine hK20 _ _ ?_
        conv => enter [5]; simp only [sl1, sl0, sz0, sz1]
        refine AW.cond rfl (fun hc94 => ?_) (fun hc94 => ?_)
        ·skip
         have h7 : b.kind = 7 := by simpa using hc94
         have hal := ha h7
         obtain ⟨u, hu⟩ := Int.eq_ofNat_of_zero_le (hwb.sub h7).1
         have hul : u < f.ds.length := by have := (hwb.sub h7).2; omega
         obtain ⟨e, he⟩ : ∃ z, f.ds[u]? = some z := ⟨_, List.getElem?_eq_getElem hul⟩
         have hz : (f.ds.map Dgm.enc)[u]? = some e.enc := by simp [he]
         have hins : insT f b = e.ins.map (·.type) := by simp only [insT, hu, Int.toNat_natCast, he]
         refine AW.regl false [9] (by rfl) fun K21 hK21 => ?_
         simp only [go_sem, Nat.reduceAdd, Nat.reduceEqDiff, Nat.reduceLeDiff]
         refine hK21 _ _ ?_
         conv => enter [5]; simp only [sl1, sl0, sz0, sz1]
         refine AW.block ?_
         refine AW.loop_wk (α := Nat) (fun j => [.any, .any, .any, (.ref σ.length 0), .any, (.ref (σ.length + 2) 0), .any, (rowAV 1 true (T.map intA)), .any, (.val (.int .i64 ((j : Nat) : Int))), .any, .any, .any, .any, .any, .any, .any, .any, .any, .any, .any, .any, .any, .any, .any, .any, .any, .any, .any, .any, .any, .any, .any, .any, .any, .any, .any, .any, .any, .any, .any, .any, .any, .any, .any, .any, .any, .any, .any, .any, .any, .any, .any, .any, .any, .any, .any, .any, .any, .any, .any, .any, .any, .any, .any, .any, .any, .any, .any, .any, .any, .any, .any, .any, .any, .any, .any, .any, .any, .any, .any, .any, .any, .any, .any, .any, .any, .any, .any, .any, .any, .any, .any, .any, .any, .any, .any, .any, .any, .any, .any, .any, .any, .any, .any, .any, .any, .any, .any, .any, .any, .any, .any, .any, .any, .any, .any, .any]) (fun j => σ ++ [.cells (FileM.enc f).cells, .cells (Dgm.enc d).cells, .cells (Blk.enc b).cells, .cap b.src.length 1]) (fun j => T.length - j) (fun j => j ≤ T.length ∧ T.take j = (insT f b).take j) 0 ?_ ?_
         ·exact ⟨⟨Nat.zero_le _, rfl⟩, by simp [Wk], rfl⟩
         ·rintro j ⟨hj, htj⟩
          refine AW.seq_k fun K22 hK22 => ?_
          refine AW.regl false [99] (by rfl) fun K23 hK23 => ?_
          simp only [go_sem, Nat.reduceAdd, Nat.reduceEqDiff, Nat.reduceLeDiff]
          refine hK23 _ _ ?_
          conv => enter [5]; simp only [sl1, sl0, sz0, sz1]
          refine AW.cond rfl (fun hc99 => ?_) (fun hc99 => ?_)
          ·skip
           have hj1 : j < T.length := by simpa using hc99
           have hj2 : j < (insT f b).length := by omega
           have hj3 : j < e.ins.length := by rw [hins] at hj2; simpa using hj2
           obtain ⟨p, hp⟩ : ∃ z, e.ins[j]? = some z := ⟨_, List.getElem?_eq_getElem hj3⟩
           have hw' : (e.ins.map PortM.enc)[j]? = some p.enc := by simp [hp]
           have hpt : p.type = (insT f b).getD j 0 := by rw [hins]; simp [List.getD_eq_getElem?_getD, hp]
           have hrj := rowT (k := .i64) hj1 true
           have hg1 : T.getD j 0 = T[j] := by simp [List.getD_eq_getElem?_getD, hj1]
           have hg2 : (insT f b).getD j 0 = (insT f b)[j] := by simp [List.getD_eq_getElem?_getD, hj2]
           refine AW.skip ?_
           refine hK22 _ _ ?_
           refine AW.seq_k fun K24 hK24 => ?_
           refine AW.block ?_
           refine AW.regdl mixed false [117] (by kernel_rfl) (by rfl) fun K25 hK25 => ?_
           simp only [go_sem, Nat.reduceAdd, Nat.reduceEqDiff, Nat.reduceLeDiff, FileM.enc, Blk.enc, hrj, hu, at_row hz, Dgm.enc, at_row hw', PortM.enc, hpt]
           refine hK25 _ ?_
           conv => enter [5]; simp only [sl1, sl0, sz0, sz1]
           refine AW.cond rfl (fun hc117 => ?_) (fun hc117 => ?_)
           ·skip
            have hne : ¬ T = insT f b := fun e => by rw [e] at hc117; simp at hc117
            refine AW.regl false [6] (by rfl) fun K26 hK26 => ?_
            simp only [go_sem, Nat.reduceAdd, Nat.reduceEqDiff, Nat.reduceLeDiff]
            refine hK26 _ _ ?_
            conv => enter [5]; simp only [sl1, sl0, sz0, sz1]
            refine AW.ret ⟨.inr rfl, _, rfl, by simp, ?_⟩
            refine frzB ?_
            unfold askB
            rw [if_neg n24, if_neg (ne_true_of_eq_false hc39), if_neg (ne_true_of_eq_false hc70), if_neg (ne_true_of_eq_false hc79), if_pos hc94, decide_eq_false hne]
           ·skip
            have heq : T[j] = (insT f b)[j] := by rw [← hg1, ← hg2]; simpa using hc117
            refine AW.skip ?_
            refine hK24 _ _ ?_
            refine AW.lastl false [9] (by rfl) fun K hK => ?_
            simp only [go_sem, Nat.reduceAdd, Nat.reduceEqDiff, Nat.reduceLeDiff]
            refine hK _ _ fun env' hw => ?_
            simp only [setL_cons, setL_nil, List.set_cons_zero, List.set_cons_succ] at hw
            refine ⟨j + 1, by omega, ⟨by omega, ?_⟩, ?_, rfl⟩
            ·rw [List.take_succ_eq_append_getElem hj1, List.take_succ_eq_append_getElem hj2, htj, heq]
            ·refine hw.trans ?_
             simp [Wk, wrap_succ (show j < 2000 by omega) (by decide)]
          ·skip
           have hj1 : j = T.length := by
            have : ¬ j < T.length := by simpa using hc99
            omega
           have hTe : T = insT f b := by rw [hj1, List.take_length, List.take_of_length_le (by omega)] at htj; exact htj
           refine AW.exit ?_
           refine hK8 _ _ ?_
           refine AW.regl false [6] (by rfl) fun K27 hK27 => ?_
           simp only [go_sem, Nat.reduceAdd, Nat.reduceEqDiff, Nat.reduceLeDiff]
           refine hK27 _ _ ?_
           conv => enter [5]; simp only [sl1, sl0, sz0, sz1]
           refine AW.ret ⟨.inr rfl, _, rfl, by simp, ?_⟩
           refine frzB ?_
           unfold askB
           rw [if_neg n24, if_neg (ne_true_of_eq_false hc39), if_neg (ne_true_of_eq_false hc70), if_neg (ne_true_of_eq_false hc79), if_pos hc94]
           exact (decide_eq_true (by first | exact hTe | exact hT ▸ hTe)).symm
        ·skip
         refine AW.skip ?_
         refine hK8 _ _ ?_
         refine AW.regl false [6] (by rfl) fun K28 hK28 => ?_
         simp only [go_sem, Nat.reduceAdd, Nat.reduceEqDiff, Nat.reduceLeDiff]
         refine hK28 _ _ ?_
         conv => enter [5]; simp only [sl1, sl0, sz0, sz1]
         refine AW.ret ⟨.inr rfl, _, rfl, by simp, ?_⟩
         refine frzB ?_
         unfold askB
         rw [if_neg n24, if_neg (ne_true_of_eq_false hc39), if_neg (ne_true_of_eq_false hc70), if_neg (ne_true_of_eq_false hc79), if_neg (ne_true_of_eq_false hc94)]
end Fl
end Go.Proofs.Tryd
/-! Flow: function 33. -/
namespace Go.Proofs.Tryd
set_option linter.unusedSimpArgs false
set_option linter.unusedVariables false
open Go Go.Proofs.Ev
namespace Fl
variable {Γ : List (Nat × List AV)} {w : AV} {G : List (Nat × List AV)}
attribute [local go_sem] true_and List.length_map len_row one_row List.drop_zero blk_len dgm_len port_len out_len src_len file_len rdgm_get rblk_get rsrc_get rfile_get dgm_all blk_all src_all file_all
set_option maxRecDepth 100000 in
set_option maxHeartbeats 1000000 in
theorem rdiagram_calls (f : FileM) (hs : f.small) (hgd : ∀ d ∈ f.ds, GoodD f d) (d : Dgm) (i : Nat) (hfd : f.ds[i]? = some d) : APure prog Γ 33 [f.enc, i64 ((i : Nat) : Int)] (i64 (diaM f i d)) := by
 refine APure.of func33 rfl fun σ => ?_
 simp only [ntmps33, List.length_cons, List.length_nil, Nat.reduceAdd, Nat.reduceSub, List.replicate_succ, List.replicate_zero, List.cons_append, List.nil_append]
 have hx : (f.ds.map Dgm.enc)[i]? = some d.enc := by simp [hfd]
 have hdm : d ∈ f.ds := List.mem_of_getElem? hfd
 have hsd := hs.2 d hdm
 have hg := hgd d hdm
 have hfl := hs.1
 obtain ⟨s1, s2, s3, s4, s5⟩ := hsd
 have hlB : d.blocks.length ≤ maxLen := by rw [maxLen_eq]; omega
 have hlO : d.outs.length ≤ maxLen := by rw [maxLen_eq]; omega
 have hnc := rnames_calls (Γ := Γ) f (by omega) d i hfd (by omega) (by omega) hg.nm
 have hoc := rorder_calls (Γ := Γ) d ⟨s1, s2, s3, s4, s5⟩ hg.inB
 unfold ordV at hoc
 have hsum := fun l => sumR_le (f := f) (m := 40) (by omega) (fun e he => (hs.2 e he).2.1) l
 refine AW.regl false [2, 4] (by rfl) fun K1 hK1 => ?_
 simp only [go_sem, Nat.reduceAdd, Nat.reduceEqDiff, Nat.reduceLeDiff]
 refine hK1 _ _ ?_
 conv => enter [5]; simp only [sl1, sl0, sz0, sz1]
 refine AW.regl false [5] (by rfl) fun K2 hK2 => ?_
 simp only [go_sem, Nat.reduceAdd, Nat.reduceEqDiff, Nat.reduceLeDiff, FileM.enc, at_row hx]
 refine hK2 _ _ ?_
 conv => enter [5]; simp only [sl1, sl0, sz0, sz1, upd_none, upd_at]
 refine AW.seq_k fun K3 hK3 => ?_
 refine AW.regl false [22] (by rfl) fun K4 hK4 => ?_
 simp only [go_sem, Nat.reduceAdd, Nat.reduceEqDiff, Nat.reduceLeDiff]
 refine sC.of en59 (hnc.on _).here (by rfl) ?_
 simp only [go_sem, Nat.reduceAdd, Nat.reduceEqDiff, Nat.reduceLeDiff]
 refine hK4 _ _ ?_
 conv => enter [5]; simp only [sl1, sl0, sz0, sz1]
 refine AW.cond rfl (fun hc22 => ?_) (fun hc22 => ?_)
 ·skip
  have hN : namesM f i d = false := by simpa using hc22
  refine AW.regl false [4] (by rfl) fun K5 hK5 => ?_
  simp only [go_sem, Nat.reduceAdd, Nat.reduceEqDiff, Nat.reduceLeDiff]
  refine hK5 _ _ ?_
  conv => enter [5]; simp only [sl1, sl0, sz0, sz1]
  refine AW.ret ⟨.inr rfl, _, rfl, by simp, ?_⟩
  refine frzI ?_
  unfold diaM
  rw [if_pos hN]
 ·skip
  have hN : ¬ namesM f i d = false := by simpa using hc22
  refine AW.skip ?_
  refine hK3 _ _ ?_
  refine AW.seq_k fun K6 hK6 => ?_
  refine AW.regl false [26] (by rfl) fun K7 hK7 => ?_
  simp only [go_sem, Nat.reduceAdd, Nat.reduceEqDiff, Nat.reduceLeDiff, Dgm.enc]
  refine hK7 _ _ ?_
  conv => enter [5]; simp only [sl1, sl0, sz0, sz1]
  refine AW.cond rfl (fun hc26 => ?_) (fun hc26 => ?_)
  ·skip
   have hO : d.outs.length = 0 := by simp at hc26; simp [hc26]
   refine AW.regl false [4] (by rfl) fun K8 hK8 => ?_
   simp only [go_sem, Nat.reduceAdd, Nat.reduceEqDiff, Nat.reduceLeDiff]
   refine hK8 _ _ ?_
   conv => enter [5]; simp only [sl1, sl0, sz0, sz1]
   refine AW.ret ⟨.inr rfl, _, rfl, by simp, ?_⟩
   refine frzI ?_
   unfold diaM
   rw [if_neg hN, if_pos hO]
  ·skip
   have hO : ¬ d.outs.length = 0 := by simp at hc26; simp [hc26]
   refine AW.skip ?_
   refine hK6 _ _ ?_
   refine AW.regl false [6] (by rfl) fun K9 hK9 => ?_
   simp only [go_sem, Nat.reduceAdd, Nat.reduceEqDiff, Nat.reduceLeDiff, Dgm.enc]
   refine hK9 _ _ ?_
   conv => enter [5]; simp only [sl1, sl0, sz0, sz1]
   refine AW.seq_k fun K10 hK10 => ?_
   refine AW.regl false [7] (by rfl) fun K11 hK11 => ?_
   simp only [go_sem, Nat.reduceAdd, Nat.reduceEqDiff, Nat.reduceLeDiff]
   refine hK11 _ _ ?_
   conv => enter [5]; simp only [sl1, sl0, sz0, sz1]
   refine AW.block ?_
   refine AW.loop_wk (α := Nat) (fun k => [.any, .any, (.ref σ.length 0), .any, .any, (.ref (σ.length + 1) 0), (.val (.int .i64 ((d.outs.length : Int) + sumR f (d.blocks.take k)))), (.val (.int .i64 ((k : Nat) : Int))), .any, .any, .any, .any, .any, .any, .any, .any, .any, .any, .any, .any, .any, .any, .any, .any, .any, .any, .any, .any, .any, .any, .any, .any, .any, .any, .any, .any, .any, .any, .any, .any, .any, .any, .any, .any, .any, .any, .any, .any, .any, .any, .any, .any, .any, .any, .any, .any, .any, .any, .any, .any, .any, .any, .any, .any, .any, .any, .any, .any, .any, .any, .any, .any, .any, .any, .any, .any, .any, .any, .any, .any, .any, .any, .any, .any, .any, .any, .any, .any, .any, .any, .any, .any, .any, .any, .any, .any, .any, .any, .any, .any, .any, .any, .any, .any, .any, .any, .any, .any, .any, .any, .any, .any, .any, .any, .any, .any, .any, .any, .any, .any, .any, .any, .any, .any, .any, .any, .any, .any, .any, .any, .any, .any, .any, .any, .any, .any, .any, .any, .any, .any, .any, .any, .any, .any, .any, .any, .any, .any, .any, .any, .any, .any, .any, .any]) (fun k => σ ++ [.cells (FileM.enc f).cells, .cells (Dgm.enc d).cells]) (fun k => d.blocks.length - k) (fun k => k ≤ d.blocks.length ∧ ∀ b ∈ d.blocks.take k, b.src.length ≤ 1000) 0 ?_ ?_
   ·exact ⟨⟨Nat.zero_le _, fun _ h => by cases h⟩, by simp [Wk, sumR], rfl⟩
   ·rintro k ⟨hk, hsr⟩
    refine AW.seq_k fun K12 hK12 => ?_
    refine AW.regl false [34] (by rfl) fun K13 hK13 => ?_
    simp only [go_sem, Nat.reduceAdd, Nat.reduceEqDiff, Nat.reduceLeDiff, Dgm.enc]
    refine hK13 _ _ ?_
    conv => enter [5]; simp only [sl1, sl0, sz0, sz1]
    refine AW.cond rfl (fun hc34 => ?_) (fun hc34 => ?_)
    ·skip
     have hk1 : k < d.blocks.length := by simpa using hc34
     obtain ⟨b, hb⟩ : ∃ z, z = d.blocks[k] := ⟨_, rfl⟩
     have hy : (d.blocks.map Blk.enc)[k]? = some b.enc := by rw [hb]; simp [hk1]
     have hwr : sumR f (d.blocks.take (k + 1)) = sumR f (d.blocks.take k) + f.results b := by rw [sumR_snoc hk1, ← hb]
     have hsb := hsum (d.blocks.take (k + 1))
     have hwq : IntKind.wrap .i64 ((d.outs.length : Int) + sumR f (d.blocks.take k) + f.results b) = (d.outs.length : Int) + sumR f (d.blocks.take (k + 1)) := by
      rw [Int.add_assoc, ← hwr]
      have : (d.blocks.take (k + 1)).length ≤ 200 := by rw [List.length_take]; omega
      exact wrapI (by omega) (by omega)
     refine AW.skip ?_
     refine hK12 _ _ ?_
     refine AW.seq_k fun K14 hK14 => ?_
     refine AW.block ?_
     refine AW.regml mixed false [6] 9 (by kernel_rfl) (by kernel_rfl) (by rfl) fun K15 hK15 => ?_
     simp only [go_sem, Nat.reduceAdd, Nat.reduceEqDiff, Nat.reduceLeDiff, Dgm.enc, at_row hy, hwq]
     refine qC.of en37 ((rresults_calls f b).on _).here (by rfl) ?_
     simp only [go_sem, Nat.reduceAdd, Nat.reduceEqDiff, Nat.reduceLeDiff, Dgm.enc, at_row hy, hwq]
     refine hK15 _ _ ?_
     conv => enter [5]; simp only [sl1, sl0, sz0, sz1]
     refine AW.regl false [53] (by rfl) fun K16 hK16 => ?_
     simp only [go_sem, Nat.reduceAdd, Nat.reduceEqDiff, Nat.reduceLeDiff, Dgm.enc, at_row hy, Blk.enc]
     refine hK16 _ _ ?_
     conv => enter [5]; simp only [sl1, sl0, sz0, sz1]
     refine AW.cond rfl (fun hc53 => ?_) (fun hc53 => ?_)
     ·skip
      have hR : rngB f d = false := by
       have h1 : d.blocks.all (fun b => decide (b.src.length ≤ 1000)) = false := all_at hk1 (by rw [← hb]; simp at hc53 ⊢; omega)
       rw [rngB, h1]; rfl
      refine AW.regl false [4] (by rfl) fun K17 hK17 => ?_
      simp only [go_sem, Nat.reduceAdd, Nat.reduceEqDiff, Nat.reduceLeDiff]
      refine hK17 _ _ ?_
      conv => enter [5]; simp only [sl1, sl0, sz0, sz1]
      refine AW.ret ⟨.inr rfl, _, rfl, by simp, ?_⟩
      refine frzI ?_
      unfold diaM
      rw [if_neg hN, if_neg hO, if_pos hR]
     ·skip
      have hbs : ¬ ((b.src.length : Nat) : Int) > 1000 := by simpa using hc53
      refine AW.skip ?_
      refine hK14 _ _ ?_
      refine AW.lastl false [7] (by rfl) fun K hK => ?_
      simp only [go_sem, Nat.reduceAdd, Nat.reduceEqDiff, Nat.reduceLeDiff]
      refine hK _ _ fun env' hw => ?_
      simp only [setL_cons, setL_nil, List.set_cons_zero, List.set_cons_succ] at hw
      refine ⟨k + 1, by omega, ⟨by omega, fun c hc => by
       rw [List.take_succ_eq_append_getElem hk1, List.mem_append, List.mem_singleton] at hc
       rcases hc with hc | hc
       ·exact hsr c hc
       ·rw [hc, ← hb]; omega⟩, ?_, rfl⟩
      refine hw.trans ?_
      simp [Wk, wrap_succ hk1 hlB, hwr]
      try omega
    ·skip
     have hk1 : k = d.blocks.length := by
      have : ¬ k < d.blocks.length := by simpa using hc34
      omega
     have hsr : ∀ b ∈ d.blocks, b.src.length ≤ 1000 := by rw [hk1, List.take_length] at hsr; exact hsr
     have hsb := hsum d.blocks
     refine AW.exit ?_
     refine hK10 _ _ ?_
     refine AW.seq_k fun K18 hK18 => ?_
     rw [hk1, List.take_length]
     refine AW.regcuts fun K19 hK19 => ?_
     refine AOps.cut false 10 63 (.val (.bool ((decide (((f.ds.length : Nat) : Int) > 1000)) || (decide (((d.ins.length : Nat) : Int) > 1000))))) (by rfl) ?_ ?_
     ·skip
      cases h57 : ((decide (((f.ds.length : Nat) : Int) > 1000)))
      ·skip
       simp only [go_sem, Nat.reduceAdd, Nat.reduceEqDiff, Nat.reduceLeDiff, FileM.enc, Dgm.enc, wrapI (show -1000000 ≤ (d.outs.length : Int) + (d.blocks.length : Int) by omega) (show (d.outs.length : Int) + (d.blocks.length : Int) ≤ 1000000 by omega), List.take_succ_cons, List.take_zero, h57]
       try simp [upd_at, h57, List.length_map, len_row, one_row, List.drop_zero, blk_len, dgm_len, port_len, out_len, src_len, file_len, rdgm_get, rblk_get, rsrc_get, rfile_get, dgm_all, blk_all, src_all, file_all, FileM.enc, Dgm.enc, wrapI (show -1000000 ≤ (d.outs.length : Int) + (d.blocks.length : Int) by omega) (show (d.outs.length : Int) + (d.blocks.length : Int) ≤ 1000000 by omega)]
      ·skip
       simp only [go_sem, Nat.reduceAdd, Nat.reduceEqDiff, Nat.reduceLeDiff, FileM.enc, Dgm.enc, wrapI (show -1000000 ≤ (d.outs.length : Int) + (d.blocks.length : Int) by omega) (show (d.outs.length : Int) + (d.blocks.length : Int) ≤ 1000000 by omega), List.take_succ_cons, List.take_zero, h57]
       try simp [upd_at, h57, List.length_map, len_row, one_row, List.drop_zero, blk_len, dgm_len, port_len, out_len, src_len, file_len, rdgm_get, rblk_get, rsrc_get, rfile_get, dgm_all, blk_all, src_all, file_all, FileM.enc, Dgm.enc, wrapI (show -1000000 ≤ (d.outs.length : Int) + (d.blocks.length : Int) by omega) (show (d.outs.length : Int) + (d.blocks.length : Int) ≤ 1000000 by omega)]
     simp only [List.drop_succ_cons, List.drop_zero, List.set_cons_zero, List.set_cons_succ]
     refine AOps.cut false 4 67 (.val (.bool (((decide (((f.ds.length : Nat) : Int) > 1000)) || (decide (((d.ins.length : Nat) : Int) > 1000))) || (decide (((d.outs.length : Int) + sumR f d.blocks) > 1000))))) (by rfl) ?_ ?_
     ·skip
      cases h63 : (((decide (((f.ds.length : Nat) : Int) > 1000)) || (decide (((d.ins.length : Nat) : Int) > 1000))))
      ·skip
       simp only [go_sem, Nat.reduceAdd, Nat.reduceEqDiff, Nat.reduceLeDiff, FileM.enc, Dgm.enc, wrapI (show -1000000 ≤ (d.outs.length : Int) + (d.blocks.length : Int) by omega) (show (d.outs.length : Int) + (d.blocks.length : Int) ≤ 1000000 by omega), List.take_succ_cons, List.take_zero, h63]
       try simp [upd_at, h63, List.length_map, len_row, one_row, List.drop_zero, blk_len, dgm_len, port_len, out_len, src_len, file_len, rdgm_get, rblk_get, rsrc_get, rfile_get, dgm_all, blk_all, src_all, file_all, FileM.enc, Dgm.enc, wrapI (show -1000000 ≤ (d.outs.length : Int) + (d.blocks.length : Int) by omega) (show (d.outs.length : Int) + (d.blocks.length : Int) ≤ 1000000 by omega)]
      ·skip
       simp only [go_sem, Nat.reduceAdd, Nat.reduceEqDiff, Nat.reduceLeDiff, FileM.enc, Dgm.enc, wrapI (show -1000000 ≤ (d.outs.length : Int) + (d.blocks.length : Int) by omega) (show (d.outs.length : Int) + (d.blocks.length : Int) ≤ 1000000 by omega), List.take_succ_cons, List.take_zero, h63]
       try simp [upd_at, h63, List.length_map, len_row, one_row, List.drop_zero, blk_len, dgm_len, port_len, out_len, src_len, file_len, rdgm_get, rblk_get, rsrc_get, rfile_get, dgm_all, blk_all, src_all, file_all, FileM.enc, Dgm.enc, wrapI (show -1000000 ≤ (d.outs.length : Int) + (d.blocks.length : Int) by omega) (show (d.outs.length : Int) + (d.blocks.length : Int) ≤ 1000000 by omega)]
     simp only [List.drop_succ_cons, List.drop_zero, List.set_cons_zero, List.set_cons_succ]
     refine AOps.cut false 10 77 (.val (.bool ((((decide (((f.ds.length : Nat) : Int) > 1000)) || (decide (((d.ins.length : Nat) : Int) > 1000))) || (decide (((d.outs.length : Int) + sumR f d.blocks) > 1000))) || (decide ((d.outs.length : Int) + (d.blocks.length : Int) > 1000))))) (by rfl) ?_ ?_
     ·skip
      cases h67 : ((((decide (((f.ds.length : Nat) : Int) > 1000)) || (decide (((d.ins.length : Nat) : Int) > 1000))) || (decide (((d.outs.length : Int) + sumR f d.blocks) > 1000))))
      ·skip
       simp only [go_sem, Nat.reduceAdd, Nat.reduceEqDiff, Nat.reduceLeDiff, FileM.enc, Dgm.enc, wrapI (show -1000000 ≤ (d.outs.length : Int) + (d.blocks.length : Int) by omega) (show (d.outs.length : Int) + (d.blocks.length : Int) ≤ 1000000 by omega), List.take_succ_cons, List.take_zero, h67]
       try simp [upd_at, h67, List.length_map, len_row, one_row, List.drop_zero, blk_len, dgm_len, port_len, out_len, src_len, file_len, rdgm_get, rblk_get, rsrc_get, rfile_get, dgm_all, blk_all, src_all, file_all, FileM.enc, Dgm.enc, wrapI (show -1000000 ≤ (d.outs.length : Int) + (d.blocks.length : Int) by omega) (show (d.outs.length : Int) + (d.blocks.length : Int) ≤ 1000000 by omega)]
      ·skip
       simp only [go_sem, Nat.reduceAdd, Nat.reduceEqDiff, Nat.reduceLeDiff, FileM.enc, Dgm.enc, wrapI (show -1000000 ≤ (d.outs.length : Int) + (d.blocks.length : Int) by omega) (show (d.outs.length : Int) + (d.blocks.length : Int) ≤ 1000000 by omega), List.take_succ_cons, List.take_zero, h67]
       try simp [upd_at, h67, List.length_map, len_row, one_row, List.drop_zero, blk_len, dgm_len, port_len, out_len, src_len, file_len, rdgm_get, rblk_get, rsrc_get, rfile_get, dgm_all, blk_all, src_all, file_all, FileM.enc, Dgm.enc, wrapI (show -1000000 ≤ (d.outs.length : Int) + (d.blocks.length : Int) by omega) (show (d.outs.length : Int) + (d.blocks.length : Int) ≤ 1000000 by omega)]
     simp only [List.drop_succ_cons, List.drop_zero, List.set_cons_zero, List.set_cons_succ]
     refine AOps.nil (hK19 _ _ ?_)
     refine AW.cond rfl (fun hc77 => ?_) (fun hc77 => ?_)
     ·skip
      have hR : rngB f d = false := by
       rw [Bool.eq_false_iff]
       intro h
       simp [rngB] at h hc77
       omega
      refine AW.regl false [4] (by rfl) fun K20 hK20 => ?_
      simp only [go_sem, Nat.reduceAdd, Nat.reduceEqDiff, Nat.reduceLeDiff]
      refine hK20 _ _ ?_
      conv => enter [5]; simp only [sl1, sl0, sz0, sz1]
      refine AW.ret ⟨.inr rfl, _, rfl, by simp, ?_⟩
      refine frzI ?_
      unfold diaM
      rw [if_neg hN, if_neg hO, if_pos hR]
     ·skip
      have hR : ¬ rngB f d = false := by
       have h1 : d.blocks.all (fun b => decide (b.src.length ≤ 1000)) = true := by simpa using hsr
       simp [rngB, h1] at hc77 ⊢
       omega
      refine AW.skip ?_
      refine hK18 _ _ ?_
      refine AW.seq_k fun K21 hK21 => ?_
      refine AW.regl false [8] (by rfl) fun K22 hK22 => ?_
      simp only [go_sem, Nat.reduceAdd, Nat.reduceEqDiff, Nat.reduceLeDiff]
      refine hK22 _ _ ?_
      conv => enter [5]; simp only [sl1, sl0, sz0, sz1]
      refine AW.block ?_
      refine AW.loop_dr (α := Nat) (fun k => [.any, .any, (.ref σ.length 0), .any, .any, (.ref (σ.length + 1) 0), .any, .any, (.val (.int .i64 ((k : Nat) : Int))), .any, .any, .any, .any, .any, .any, .any, .any, .any, .any, .any, .any, .any, .any, .any, .any, .any, .any, .any, .any, .any, .any, .any, .any, .any, .any, .any, .any, .any, .any, .any, .any, .any, .any, .any, .any, .any, .any, .any, .any, .any, .any, .any, .any, .any, .any, .any, .any, .any, .any, .any, .any, .any, .any, .any, .any, .any, .any, .any, .any, .any, .any, .any, .any, .any, .any, .any, .any, .any, .any, .any, .any, .any, .any, .any, .any, .any, .any, .any, .any, .any, .any, .any, .any, .any, .any, .any, .any, .any, .any, .any, .any, .any, .any, .any, .any, .any, .any, .any, .any, .any, .any, .any, .any, .any, .any, .any, .any, .any, .any, .any, .any, .any, .any, .any, .any, .any, .any, .any, .any, .any, .any, .any, .any, .any, .any, .any, .any, .any, .any, .any, .any, .any, .any, .any, .any, .any, .any, .any, .any, .any, .any, .any, .any, .any]) (fun k => σ ++ [.cells (FileM.enc f).cells, .cells (Dgm.enc d).cells]) (fun k => d.blocks.length - k) (fun k => k ≤ d.blocks.length ∧ (d.blocks.take k).any (arB f) = false) 0 ?_ ?_ ?_
      ·exact ⟨⟨Nat.zero_le _, rfl⟩, by simp [Wk], rfl⟩
      ·refine fun y _ => ⟨?_, bel_app σ fun a ha => ?_⟩
       ·simp [belL, AV.bel]
       ·simp only [List.mem_cons, List.not_mem_nil, or_false] at ha
        rcases ha with rfl | rfl
        ·exact file_bel f _
        ·exact dgm_cb d _
      ·rintro k ⟨hk, har⟩
       refine AW.seq_k fun K23 hK23 => ?_
       refine AW.regl false [82] (by rfl) fun K24 hK24 => ?_
       simp only [go_sem, Nat.reduceAdd, Nat.reduceEqDiff, Nat.reduceLeDiff, Dgm.enc]
       refine hK24 _ _ ?_
       conv => enter [5]; simp only [sl1, sl0, sz0, sz1]
       refine AW.cond rfl (fun hc82 => ?_) (fun hc82 => ?_)
       ·skip
        have hk1 : k < d.blocks.length := by simpa using hc82
        obtain ⟨b, hb⟩ : ∃ z, z = d.blocks[k] := ⟨_, rfl⟩
        have hy : (d.blocks.map Blk.enc)[k]? = some b.enc := by rw [hb]; simp [hk1]
        have hbm : b ∈ d.blocks := by rw [hb]; exact List.getElem_mem hk1
        refine AW.skip ?_
        refine hK23 _ _ ?_
        refine AW.seq_k fun K25 hK25 => ?_
        refine AW.block ?_
        refine AW.regl false [9] (by rfl) fun K26 hK26 => ?_
        simp only [go_sem, Nat.reduceAdd, Nat.reduceEqDiff, Nat.reduceLeDiff, Dgm.enc, at_row hy]
        refine hK26 _ _ ?_
        conv => enter [5]; simp only [sl1, sl0, sz0, sz1, upd_none, upd_at]
        refine AW.regtdf mixed false 106 (.val (.bool (arB f b))) (by kernel_rfl) (by rfl) ?_ ?_
        ·skip
         cases h92 : (b.kind == 7)
         ·skip
          simp only [go_sem, Nat.reduceAdd, Nat.reduceEqDiff, Nat.reduceLeDiff, FileM.enc, Blk.enc, h92]
          try simp [upd_at, h92, List.length_map, len_row, one_row, List.drop_zero, blk_len, dgm_len, port_len, out_len, src_len, file_len, rdgm_get, rblk_get, rsrc_get, rfile_get, dgm_all, blk_all, src_all, file_all, FileM.enc, Blk.enc]
          all_goals first | (simp [arB, h92, hil, bne, beq_nat]; done) | (simp [arB, h92]; done) | skip
         ·skip
          have h7 : b.kind = 7 := by simpa using h92
          obtain ⟨u, hu⟩ := Int.eq_ofNat_of_zero_le ((hg.wf b hbm).sub h7).1
          have hul : u < f.ds.length := by have := ((hg.wf b hbm).sub h7).2; omega
          obtain ⟨e, he⟩ : ∃ z, f.ds[u]? = some z := ⟨_, List.getElem?_eq_getElem hul⟩
          have hz : (f.ds.map Dgm.enc)[u]? = some e.enc := by simp [he]
          have hil := insT_len hu he
          simp only [go_sem, Nat.reduceAdd, Nat.reduceEqDiff, Nat.reduceLeDiff, FileM.enc, Blk.enc, h92, hu, at_row hz, Dgm.enc]
          try simp [upd_at, h92, hu, at_row hz, Dgm.enc, List.length_map, len_row, one_row, List.drop_zero, blk_len, dgm_len, port_len, out_len, src_len, file_len, rdgm_get, rblk_get, rsrc_get, rfile_get, dgm_all, blk_all, src_all, file_all, FileM.enc, Blk.enc]
          all_goals first | (simp [arB, h92, hil, bne, beq_nat]; done) | (simp [arB, h92]; done) | skip
        conv => enter [5]; simp only [sz0, sz1]
        refine AW.cond rfl (fun hc106 => ?_) (fun hc106 => ?_)
        ·skip
         have hA : d.blocks.any (arB f) = true := any_at hk1 (by rw [← hb]; exact hc106)
         refine AW.regl false [4] (by rfl) fun K28 hK28 => ?_
         simp only [go_sem, Nat.reduceAdd, Nat.reduceEqDiff, Nat.reduceLeDiff]
         refine hK28 _ _ ?_
         conv => enter [5]; simp only [sl1, sl0, sz0, sz1]
         refine AW.ret ⟨.inr rfl, _, rfl, by simp, ?_⟩
         refine frzI ?_
         unfold diaM
         rw [if_neg hN, if_neg hO, if_neg hR, if_pos hA]
        ·skip
         refine AW.skip ?_
         refine hK25 _ _ ?_
         refine AW.lastl false [8] (by rfl) fun K hK => ?_
         simp only [go_sem, Nat.reduceAdd, Nat.reduceEqDiff, Nat.reduceLeDiff]
         refine hK _ _ fun env' hw => ?_
         simp only [setL_cons, setL_nil, List.set_cons_zero, List.set_cons_succ] at hw
         refine ⟨k + 1, by omega, ⟨by omega, any_step hk1 har (by rw [← hb]; exact hc106)⟩, ?_, by first | rfl | (simp [List.take_append, List.take_of_length_le]; done) | (simp [List.take_append, List.take_of_length_le]; repeat' constructor)⟩
         refine hw.trans ?_
         simp [Wk, wrap_succ hk1 hlB]
         try omega
       ·skip
        have hk1 : k = d.blocks.length := by
         have : ¬ k < d.blocks.length := by simpa using hc82
         omega
        have hA : ¬ d.blocks.any (arB f) = true := by
         rw [hk1, List.take_length] at har
         rw [har]; simp
        refine AW.exit ?_
        refine hK21 _ _ ?_
        refine AW.seq_k fun K29 hK29 => ?_
        refine AW.regl false [11] (by rfl) fun K30 hK30 => ?_
        simp only [go_sem, Nat.reduceAdd, Nat.reduceEqDiff, Nat.reduceLeDiff]
        refine sC.of en12 (hoc.on _).here (by rfl) ?_
        simp only [go_sem, Nat.reduceAdd, Nat.reduceEqDiff, Nat.reduceLeDiff]
        refine hK30 _ _ ?_
        conv => enter [5]; simp only [sl1, sl0, sz0, sz1]
        refine AW.regl false [113] (by rfl) fun K31 hK31 => ?_
        simp only [go_sem, Nat.reduceAdd, Nat.reduceEqDiff, Nat.reduceLeDiff]
        refine hK31 _ _ ?_
        conv => enter [5]; simp only [sl1, sl0, sz0, sz1]
        refine AW.cond rfl (fun hc113 => ?_) (fun hc113 => ?_)
        ·skip
         have hC : (ordD d).isSome = false := by simpa using hc113
         refine AW.regl false [4] (by rfl) fun K32 hK32 => ?_
         simp only [go_sem, Nat.reduceAdd, Nat.reduceEqDiff, Nat.reduceLeDiff]
         refine hK32 _ _ ?_
         conv => enter [5]; simp only [sl1, sl0, sz0, sz1]
         refine AW.ret ⟨.inr rfl, _, rfl, by simp, ?_⟩
         refine frzI ?_
         unfold diaM
         rw [if_neg hN, if_neg hO, if_neg hR, if_neg hA, if_pos hC]
        ·skip
         have hC : ¬ (ordD d).isSome = false := by rw [show (ordD d).isSome = true by simpa using hc113]; simp
         obtain ⟨o, hod⟩ : ∃ o, ordD d = some o := by
          cases h : ordD d with
          | none => rw [h] at hC; exact absurd rfl hC
          | some o => exact ⟨o, rfl⟩
         have hDp := dp_all hod hg.inB
         have hAr : ∀ b ∈ d.blocks, b.kind = 7 → (insT f b).length = b.src.length := fun b hb h7 => by
          have := List.any_eq_false.1 (by simpa using hA) b hb
          simp [arB, h7] at this
          exact this.symm
         refine AW.skip ?_
         refine hK29 _ _ ?_
         refine AW.seq_k fun K33 hK33 => ?_
         refine AW.regl false [12] (by rfl) fun K34 hK34 => ?_
         simp only [go_sem, Nat.reduceAdd, Nat.reduceEqDiff, Nat.reduceLeDiff]
         refine hK34 _ _ ?_
         conv => enter [5]; simp only [sl1, sl0, sz0, sz1]
         refine AW.block ?_
         refine AW.loop_wk (α := Nat) (fun k => [.any, .any, (.ref σ.length 0), .any, .any, (.ref (σ.length + 1) 0), .any, .any, .any, .any, .any, .any, (.val (.int .i64 ((k : Nat) : Int))), .any, .any, .any, .any, .any, .any, .any, .any, .any, .any, .any, .any, .any, .any, .any, .any, .any, .any, .any, .any, .any, .any, .any, .any, .any, .any, .any, .any, .any, .any, .any, .any, .any, .any, .any, .any, .any, .any, .any, .any, .any, .any, .any, .any, .any, .any, .any, .any, .any, .any, .any, .any, .any, .any, .any, .any, .any, .any, .any, .any, .any, .any, .any, .any, .any, .any, .any, .any, .any, .any, .any, .any, .any, .any, .any, .any, .any, .any, .any, .any, .any, .any, .any, .any, .any, .any, .any, .any, .any, .any, .any, .any, .any, .any, .any, .any, .any, .any, .any, .any, .any, .any, .any, .any, .any, .any, .any, .any, .any, .any, .any, .any, .any, .any, .any, .any, .any, .any, .any, .any, .any, .any, .any, .any, .any, .any, .any, .any, .any, .any, .any, .any, .any, .any, .any, .any, .any, .any, .any, .any, .any]) (fun k => σ ++ [.cells (FileM.enc f).cells, .cells (Dgm.enc d).cells]) (fun k => d.blocks.length - k) (fun k => k ≤ d.blocks.length ∧ (d.blocks.take k).all (fun b => askB f b (b.src.map (typ f d (dN d)))) = true) 0 ?_ ?_
         ·exact ⟨⟨Nat.zero_le _, rfl⟩, by simp [Wk], rfl⟩
         ·rintro k ⟨hk, hak⟩
          refine AW.seq_k fun K35 hK35 => ?_
          refine AW.regl false [118] (by rfl) fun K36 hK36 => ?_
          simp only [go_sem, Nat.reduceAdd, Nat.reduceEqDiff, Nat.reduceLeDiff, Dgm.enc]
          refine hK36 _ _ ?_
          conv => enter [5]; simp only [sl1, sl0, sz0, sz1]
          refine AW.cond rfl (fun hc118 => ?_) (fun hc118 => ?_)
          ·skip
           have hk1 : k < d.blocks.length := by simpa using hc118
           obtain ⟨b, hb⟩ : ∃ z, z = d.blocks[k] := ⟨_, rfl⟩
           have hy : (d.blocks.map Blk.enc)[k]? = some b.enc := by rw [hb]; simp [hk1]
           have hbm : b ∈ d.blocks := by rw [hb]; exact List.getElem_mem hk1
           refine AW.skip ?_
           refine hK35 _ _ ?_
           refine AW.seq_k fun K37 hK37 => ?_
           refine AW.block ?_
           refine AW.regdl mixed false [129] (by kernel_rfl) (by rfl) fun K38 hK38 => ?_
           simp only [go_sem, Nat.reduceAdd, Nat.reduceEqDiff, Nat.reduceLeDiff, Dgm.enc, at_row hy]
           refine qC.of en60 ((rasked_calls f d (dN d) hg.wf b (hg.wf b hbm) (fun s _ => hDp s) (by have := s5 b hbm; omega) (hAr b hbm)).on _).here (by rfl) ?_
           simp only [go_sem, Nat.reduceAdd, Nat.reduceEqDiff, Nat.reduceLeDiff, Dgm.enc, at_row hy]
           refine hK38 _ ?_
           conv => enter [5]; simp only [sl1, sl0, sz0, sz1]
           refine AW.cond rfl (fun hc129 => ?_) (fun hc129 => ?_)
           ·skip
            have hT : asksB f d = false := by
             rw [asksB, all_at hk1 (by rw [← hb]; simpa using hc129)]; rfl
            refine AW.regl false [4] (by rfl) fun K39 hK39 => ?_
            simp only [go_sem, Nat.reduceAdd, Nat.reduceEqDiff, Nat.reduceLeDiff]
            refine hK39 _ _ ?_
            conv => enter [5]; simp only [sl1, sl0, sz0, sz1]
            refine AW.ret ⟨.inr rfl, _, rfl, by simp, ?_⟩
            refine frzI ?_
            unfold diaM
            rw [if_neg hN, if_neg hO, if_neg hR, if_neg hA, if_neg hC, if_pos hT]
           ·skip
            refine AW.skip ?_
            refine hK37 _ _ ?_
            refine AW.lastl false [12] (by rfl) fun K hK => ?_
            simp only [go_sem, Nat.reduceAdd, Nat.reduceEqDiff, Nat.reduceLeDiff]
            refine hK _ _ fun env' hw => ?_
            simp only [setL_cons, setL_nil, List.set_cons_zero, List.set_cons_succ] at hw
            refine ⟨k + 1, by omega, ⟨by omega, all_snoc hk1 hak (by rw [← hb]; simpa using hc129)⟩, ?_, rfl⟩
            refine hw.trans ?_
            simp [Wk, wrap_succ hk1 hlB]
            try omega
          ·skip
           have hk1 : k = d.blocks.length := by
            have : ¬ k < d.blocks.length := by simpa using hc118
            omega
           have hAs : d.blocks.all (fun b => askB f b (b.src.map (typ f d (dN d)))) = true := by
            rw [hk1, List.take_length] at hak
            exact hak
           refine AW.exit ?_
           refine hK33 _ _ ?_
           refine AW.seq_k fun K40 hK40 => ?_
           refine AW.regl false [13] (by rfl) fun K41 hK41 => ?_
           simp only [go_sem, Nat.reduceAdd, Nat.reduceEqDiff, Nat.reduceLeDiff]
           refine hK41 _ _ ?_
           conv => enter [5]; simp only [sl1, sl0, sz0, sz1]
           refine AW.block ?_
           refine AW.loop_wk (α := Nat) (fun k => [.any, .any, (.ref σ.length 0), .any, .any, (.ref (σ.length + 1) 0), .any, .any, .any, .any, .any, .any, .any, (.val (.int .i64 ((k : Nat) : Int))), .any, .any, .any, .any, .any, .any, .any, .any, .any, .any, .any, .any, .any, .any, .any, .any, .any, .any, .any, .any, .any, .any, .any, .any, .any, .any, .any, .any, .any, .any, .any, .any, .any, .any, .any, .any, .any, .any, .any, .any, .any, .any, .any, .any, .any, .any, .any, .any, .any, .any, .any, .any, .any, .any, .any, .any, .any, .any, .any, .any, .any, .any, .any, .any, .any, .any, .any, .any, .any, .any, .any, .any, .any, .any, .any, .any, .any, .any, .any, .any, .any, .any, .any, .any, .any, .any, .any, .any, .any, .any, .any, .any, .any, .any, .any, .any, .any, .any, .any, .any, .any, .any, .any, .any, .any, .any, .any, .any, .any, .any, .any, .any, .any, .any, .any, .any, .any, .any, .any, .any, .any, .any, .any, .any, .any, .any, .any, .any, .any, .any, .any, .any, .any, .any, .any, .any, .any, .any, .any, .any]) (fun k => σ ++ [.cells (FileM.enc f).cells, .cells (Dgm.enc d).cells]) (fun k => d.outs.length - k) (fun k => k ≤ d.outs.length ∧ (d.outs.take k).all (fun o => typ f d (dN d) o.src == o.port.type) = true) 0 ?_ ?_
           ·exact ⟨⟨Nat.zero_le _, rfl⟩, by simp [Wk], rfl⟩
           ·rintro k ⟨hk, hat⟩
            refine AW.seq_k fun K42 hK42 => ?_
            refine AW.regl false [134] (by rfl) fun K43 hK43 => ?_
            simp only [go_sem, Nat.reduceAdd, Nat.reduceEqDiff, Nat.reduceLeDiff, Dgm.enc]
            refine hK43 _ _ ?_
            conv => enter [5]; simp only [sl1, sl0, sz0, sz1]
            refine AW.cond rfl (fun hc134 => ?_) (fun hc134 => ?_)
            ·skip
             have hk1 : k < d.outs.length := by simpa using hc134
             obtain ⟨o, ho⟩ : ∃ z, z = d.outs[k] := ⟨_, rfl⟩
             have hy : (d.outs.map OutM.enc)[k]? = some o.enc := by rw [ho]; simp [hk1]
             refine AW.skip ?_
             refine hK42 _ _ ?_
             refine AW.seq_k fun K44 hK44 => ?_
             refine AW.block ?_
             refine AW.regdl mixed false [153] (by kernel_rfl) (by rfl) fun K45 hK45 => ?_
             simp only [go_sem, Nat.reduceAdd, Nat.reduceEqDiff, Nat.reduceLeDiff, Dgm.enc, at_row hy, OutM.enc]
             refine qC.of en16 ((rtype_calls f d hg.wf (dN d) o.src (hDp o.src)).on _).here (by rfl) ?_
             simp only [go_sem, Nat.reduceAdd, Nat.reduceEqDiff, Nat.reduceLeDiff, Dgm.enc, at_row hy, OutM.enc]
             refine hK45 _ ?_
             conv => enter [5]; simp only [sl1, sl0, sz0, sz1]
             refine AW.cond rfl (fun hc153 => ?_) (fun hc153 => ?_)
             ·skip
              have hT : asksB f d = false := by
               rw [asksB, all_at (l := d.outs) hk1 (by rw [← ho]; simpa using hc153)]; simp
              refine AW.regl false [4] (by rfl) fun K46 hK46 => ?_
              simp only [go_sem, Nat.reduceAdd, Nat.reduceEqDiff, Nat.reduceLeDiff]
              refine hK46 _ _ ?_
              conv => enter [5]; simp only [sl1, sl0, sz0, sz1]
              refine AW.ret ⟨.inr rfl, _, rfl, by simp, ?_⟩
              refine frzI ?_
              unfold diaM
              rw [if_neg hN, if_neg hO, if_neg hR, if_neg hA, if_neg hC, if_pos hT]
             ·skip
              refine AW.skip ?_
              refine hK44 _ _ ?_
              refine AW.lastl false [13] (by rfl) fun K hK => ?_
              simp only [go_sem, Nat.reduceAdd, Nat.reduceEqDiff, Nat.reduceLeDiff]
              refine hK _ _ fun env' hw => ?_
              simp only [setL_cons, setL_nil, List.set_cons_zero, List.set_cons_succ] at hw
              refine ⟨k + 1, by omega, ⟨by omega, all_snoc hk1 hat (by rw [← ho]; simpa using hc153)⟩, ?_, rfl⟩
              refine hw.trans ?_
              simp [Wk, wrap_succ hk1 hlO]
              try omega
            ·skip
             have hk1 : k = d.outs.length := by
              have : ¬ k < d.outs.length := by simpa using hc134
              omega
             have hT : ¬ asksB f d = false := by
              rw [hk1, List.take_length] at hat
              rw [asksB, hAs, hat]; simp
             refine AW.exit ?_
             refine hK40 _ _ ?_
             refine AW.regl false [4] (by rfl) fun K47 hK47 => ?_
             simp only [go_sem, Nat.reduceAdd, Nat.reduceEqDiff, Nat.reduceLeDiff]
             refine hK47 _ _ ?_
             conv => enter [5]; simp only [sl1, sl0, sz0, sz1]
             refine AW.ret ⟨.inr rfl, _, rfl, by simp, ?_⟩
             refine frzI ?_
             unfold diaM
             rw [if_neg hN, if_neg hO, if_neg hR, if_neg hA, if_neg hC, if_neg hT]
end Fl
end Go.Proofs.Tryd
/-! Flow: function 11. -/
namespace Go.Proofs.Tryd
set_option linter.unusedSimpArgs false
set_option linter.unusedVariables false
open Go Go.Proofs.Ev
namespace Fl
variable {Γ : List (Nat × List AV)} {w : AV} {G : List (Nat × List AV)}
attribute [local go_sem] true_and List.length_map len_row one_row List.drop_zero blk_len dgm_len port_len out_len src_len file_len rdgm_get rblk_get rsrc_get rfile_get dgm_all blk_all src_all file_all
set_option maxRecDepth 100000 in
theorem rcheck_calls (f : FileM) (hs : f.small) (hrr : f.rright = f.right) (hgd : f.right = true → ∀ d ∈ f.ds, GoodD f d) : APure prog Γ 11 [f.enc] (i64 (if f.right = true then checkM f else 11)) := by
 refine APure.of func11 rfl fun σ => ?_
 simp only [ntmps11, List.length_cons, List.length_nil, Nat.reduceAdd, Nat.reduceSub, List.replicate_succ, List.replicate_zero, List.cons_append, List.nil_append]
 have hfl := hs.1
 have hrc := rright_calls (Γ := Γ) f hs
 rw [hrr] at hrc
 have hlF : f.ds.length ≤ maxLen := by rw [maxLen_eq]; omega
 refine AW.regl false [1, 2] (by rfl) fun K1 hK1 => ?_
 simp only [go_sem, Nat.reduceAdd, Nat.reduceEqDiff, Nat.reduceLeDiff]
 refine hK1 _ _ ?_
 conv => enter [5]; simp only [sl1, sl0, sz0, sz1]
 refine AW.seq_k fun K2 hK2 => ?_
 refine AW.regl false [9] (by rfl) fun K3 hK3 => ?_
 simp only [go_sem, Nat.reduceAdd, Nat.reduceEqDiff, Nat.reduceLeDiff]
 refine sC.of en32 (hrc.on _).here (by rfl) ?_
 simp only [go_sem, Nat.reduceAdd, Nat.reduceEqDiff, Nat.reduceLeDiff]
 refine hK3 _ _ ?_
 conv => enter [5]; simp only [sl1, sl0, sz0, sz1]
 refine AW.cond rfl (fun hc9 => ?_) (fun hc9 => ?_)
 ·skip
  have hr : ¬ f.right = true := by simpa using hc9
  refine AW.regl false [2] (by rfl) fun K4 hK4 => ?_
  simp only [go_sem, Nat.reduceAdd, Nat.reduceEqDiff, Nat.reduceLeDiff]
  refine hK4 _ _ ?_
  conv => enter [5]; simp only [sl1, sl0, sz0, sz1]
  refine AW.ret ⟨.inr rfl, _, rfl, by simp, ?_⟩
  refine frzI ?_
  rw [if_neg hr]
 ·skip
  have hr : f.right = true := by simpa using hc9
  have hgd := hgd hr
  have hoc := rdiagrams_calls (Γ := Γ) f (by omega) (fun d hd => by have := (hs.2 d hd).2.2.1; omega) (fun d hd => (hgd d hd).subOk)
  unfold ordV at hoc
  refine AW.skip ?_
  refine hK2 _ _ ?_
  refine AW.seq_k fun K5 hK5 => ?_
  refine AW.regl false [3] (by rfl) fun K6 hK6 => ?_
  simp only [go_sem, Nat.reduceAdd, Nat.reduceEqDiff, Nat.reduceLeDiff]
  refine hK6 _ _ ?_
  conv => enter [5]; simp only [sl1, sl0, sz0, sz1]
  refine AW.block ?_
  refine AW.loop_wk (α := Nat) (fun i => [.any, (.ref σ.length 0), .any, (.val (.int .i64 ((i : Nat) : Int))), .any, .any, .any, .any, .any, .any, .any, .any, .any, .any, .any, .any, .any, .any, .any, .any, .any, .any, .any, .any, .any, .any, .any, .any, .any, .any]) (fun i => σ ++ [.cells (FileM.enc f).cells]) (fun i => f.ds.length - i) (fun i => i ≤ f.ds.length ∧ (∀ j, j < i → diaAt f j = 0)) 0 ?_ ?_
  ·exact ⟨⟨Nat.zero_le _, fun _ h => absurd h (Nat.not_lt_zero _)⟩, by simp [Wk], rfl⟩
  ·rintro i ⟨hi, hz⟩
   refine AW.seq_k fun K7 hK7 => ?_
   refine AW.regl false [14] (by rfl) fun K8 hK8 => ?_
   simp only [go_sem, Nat.reduceAdd, Nat.reduceEqDiff, Nat.reduceLeDiff, FileM.enc]
   refine hK8 _ _ ?_
   conv => enter [5]; simp only [sl1, sl0, sz0, sz1]
   refine AW.cond rfl (fun hc14 => ?_) (fun hc14 => ?_)
   ·skip
    have hi1 : i < f.ds.length := by simpa using hc14
    obtain ⟨d, hd⟩ : ∃ z, z = f.ds[i] := ⟨_, rfl⟩
    have hfd : f.ds[i]? = some d := by rw [hd]; exact List.getElem?_eq_getElem hi1
    refine AW.skip ?_
    refine hK7 _ _ ?_
    refine AW.seq_k fun K9 hK9 => ?_
    refine AW.block ?_
    refine AW.regl false [4] (by rfl) fun K10 hK10 => ?_
    simp only [go_sem, Nat.reduceAdd, Nat.reduceEqDiff, Nat.reduceLeDiff]
    refine sC.of en33 ((rdiagram_calls f hs hgd d i hfd).on _).here (by rfl) ?_
    simp only [go_sem, Nat.reduceAdd, Nat.reduceEqDiff, Nat.reduceLeDiff]
    refine hK10 _ _ ?_
    conv => enter [5]; simp only [sl1, sl0, sz0, sz1]
    refine AW.regl false [21] (by rfl) fun K11 hK11 => ?_
    simp only [go_sem, Nat.reduceAdd, Nat.reduceEqDiff, Nat.reduceLeDiff]
    refine hK11 _ _ ?_
    conv => enter [5]; simp only [sl1, sl0, sz0, sz1]
    refine AW.cond rfl (fun hc21 => ?_) (fun hc21 => ?_)
    ·skip
     have hne : ¬ diaM f i d = 0 := by simpa using hc21
     refine AW.regl false [2] (by rfl) fun K12 hK12 => ?_
     simp only [go_sem, Nat.reduceAdd, Nat.reduceEqDiff, Nat.reduceLeDiff]
     refine hK12 _ _ ?_
     conv => enter [5]; simp only [sl1, sl0, sz0, sz1]
     refine AW.ret ⟨.inr rfl, _, rfl, by simp, ?_⟩
     refine frzI ?_
     rw [if_pos hr, checkM_at hi1 hz (by rw [diaAt_eq hfd]; exact hne), diaAt_eq hfd]
    ·skip
     have heq : diaM f i d = 0 := by simpa using hc21
     refine AW.skip ?_
     refine hK9 _ _ ?_
     refine AW.lastl false [3] (by rfl) fun K hK => ?_
     simp only [go_sem, Nat.reduceAdd, Nat.reduceEqDiff, Nat.reduceLeDiff]
     refine hK _ _ fun env' hw => ?_
     simp only [setL_cons, setL_nil, List.set_cons_zero, List.set_cons_succ] at hw
     refine ⟨i + 1, by omega, ⟨by omega, fun j hj => by
      rcases Nat.lt_or_ge j i with h | h
      ·exact hz j h
      ·rw [show j = i by omega, diaAt_eq hfd]; exact heq⟩, ?_, rfl⟩
     refine hw.trans ?_
     simp [Wk, wrap_succ hi1 hlF]
     try omega
   ·skip
    have hi1 : i = f.ds.length := by
     have : ¬ i < f.ds.length := by simpa using hc14
     omega
    have hz : ∀ j, j < f.ds.length → diaAt f j = 0 := by rw [← hi1]; exact hz
    refine AW.exit ?_
    refine hK5 _ _ ?_
    refine AW.seq_k fun K13 hK13 => ?_
    refine AW.regl false [6] (by rfl) fun K14 hK14 => ?_
    simp only [go_sem, Nat.reduceAdd, Nat.reduceEqDiff, Nat.reduceLeDiff]
    refine sC.of en15 (hoc.on _).here (by rfl) ?_
    simp only [go_sem, Nat.reduceAdd, Nat.reduceEqDiff, Nat.reduceLeDiff]
    refine hK14 _ _ ?_
    conv => enter [5]; simp only [sl1, sl0, sz0, sz1]
    refine AW.regl false [29] (by rfl) fun K15 hK15 => ?_
    simp only [go_sem, Nat.reduceAdd, Nat.reduceEqDiff, Nat.reduceLeDiff]
    refine hK15 _ _ ?_
    conv => enter [5]; simp only [sl1, sl0, sz0, sz1]
    refine AW.cond rfl (fun hc29 => ?_) (fun hc29 => ?_)
    ·skip
     have hC : ¬ (ordF f).isSome = true := by simpa using hc29
     refine AW.regl false [2] (by rfl) fun K16 hK16 => ?_
     simp only [go_sem, Nat.reduceAdd, Nat.reduceEqDiff, Nat.reduceLeDiff]
     refine hK16 _ _ ?_
     conv => enter [5]; simp only [sl1, sl0, sz0, sz1]
     refine AW.ret ⟨.inr rfl, _, rfl, by simp, ?_⟩
     refine frzI ?_
     rw [if_pos hr, checkM_end hz, if_neg hC]
    ·skip
     have hC : (ordF f).isSome = true := by simpa using hc29
     refine AW.skip ?_
     refine hK13 _ _ ?_
     refine AW.regl false [2] (by rfl) fun K17 hK17 => ?_
     simp only [go_sem, Nat.reduceAdd, Nat.reduceEqDiff, Nat.reduceLeDiff]
     refine hK17 _ _ ?_
     conv => enter [5]; simp only [sl1, sl0, sz0, sz1]
     refine AW.ret ⟨.inr rfl, _, rfl, by simp, ?_⟩
     refine frzI ?_
     rw [if_pos hr, checkM_end hz, if_pos hC]
end Fl
end Go.Proofs.Tryd
/-! Flow: function 14. -/
namespace Go.Proofs.Tryd
set_option linter.unusedSimpArgs false
set_option linter.unusedVariables false
open Go Go.Proofs.Ev
namespace Fl
variable {Γ : List (Nat × List AV)} {w : AV} {G : List (Nat × List AV)}
attribute [local go_sem] true_and List.length_map len_row one_row List.drop_zero blk_len dgm_len port_len out_len src_len file_len src_get port_get out_get blk_get dgm_get file_get dgm_all blk_all src_all port_all out_all file_all rowN_cells
set_option maxRecDepth 100000 in
theorem order_calls {σ : Sto} {ot oo n : Nat} {fc nm ty : AV} {rest ords : List AV} (h1 : σ[ot]? = some (.cells (fc :: nm :: ty :: .osl oo 0 n 1 :: rest))) (h2 : σ[oo]? = some (.cells ords)) (Or : Nat → List Nat) (hM : ∀ i, i < n → ords[i]? = some (rowN (Or i)) ∧ (Or i).length ≤ 4000) (dia : Int) : APureOn prog Γ 14 [.ref ot 0, i64 dia] σ (rowN (orO n Or dia)) := by
 refine APureOn.of func14 rfl fun τ => ?_
 simp only [ntmps14, List.length_cons, List.length_nil, Nat.reduceAdd, Nat.reduceSub, List.replicate_succ, List.replicate_zero, List.cons_append, List.nil_append]
 have h1' := getL h1 τ
 have h2' := getL h2 τ
 generalize σ ++ τ = σ at h1' h2' ⊢
 have g1 := getL h1'
 have g2 := getL h2'
 refine AW.regl false [4] (by rfl) fun K1 hK1 => ?_
 simp only [go_sem, Nat.reduceAdd, Nat.reduceEqDiff, Nat.reduceLeDiff, h1', h2']
 refine hK1 _ _ ?_
 conv => enter [5]; simp only [sl1, sl0, sz0, sz1]
 refine AW.seq_k fun K2 hK2 => ?_
 refine AW.regtf false 15 (.val (.bool (decide (dia < 0) || decide (dia ≥ ((n : Nat) : Int))))) (by rfl) ?_ ?_
 ·skip
  cases h6 : (decide (dia < 0))
  ·skip
   simp only [go_sem, Nat.reduceAdd, Nat.reduceEqDiff, Nat.reduceLeDiff, h1', h2', h6]
   try simp [upd_at, h6, List.length_map, len_row, one_row, List.drop_zero, blk_len, dgm_len, port_len, out_len, src_len, file_len, src_get, port_get, out_get, blk_get, dgm_get, file_get, dgm_all, blk_all, src_all, port_all, out_all, file_all, h1', h2', rowN_cells]
  ·skip
   simp only [go_sem, Nat.reduceAdd, Nat.reduceEqDiff, Nat.reduceLeDiff, h1', h2', h6]
   try simp [upd_at, h6, List.length_map, len_row, one_row, List.drop_zero, blk_len, dgm_len, port_len, out_len, src_len, file_len, src_get, port_get, out_get, blk_get, dgm_get, file_get, dgm_all, blk_all, src_all, port_all, out_all, file_all, h1', h2', rowN_cells]
 conv => enter [5]; simp only [sz0, sz1]
 refine AW.cond rfl (fun hc15 => ?_) (fun hc15 => ?_)
 ·skip
  have hO : orO n Or dia = [] := by rw [orO, if_pos hc15]
  refine AW.regl false [4] (by rfl) fun K4 hK4 => ?_
  simp only [go_sem, Nat.reduceAdd, Nat.reduceEqDiff, Nat.reduceLeDiff, h1', h2']
  refine hK4 _ _ ?_
  conv => enter [5]; simp only [sl1, sl0, sz0, sz1]
  refine AW.ret ⟨.inr rfl, _, rfl, by simp, ?_⟩
  rw [hO]
  exact .keep rfl
 ·skip
  have hd0 : 0 ≤ dia ∧ dia < ((n : Nat) : Int) := by simp at hc15; omega
  obtain ⟨i, hi⟩ := Int.eq_ofNat_of_zero_le hd0.1
  have hin : i < n := by omega
  have hO : orO n Or dia = Or i := by rw [orO, if_neg (ne_true_of_eq_false hc15), hi, Int.toNat_natCast]
  obtain ⟨hq1, hq2⟩ := hM i hin
  have hat := at_osl (o := oo) (k := .i64) hin
  have hdr := dr_at hq1
  refine AW.skip ?_
  refine hK2 _ _ ?_
  refine AW.regl false [4] (by rfl) fun K5 hK5 => ?_
  simp only [go_sem, Nat.reduceAdd, Nat.reduceEqDiff, Nat.reduceLeDiff, h1', h2', hi, hat, hdr]
  refine sC.of en36 ((clone_calls (Or i) hq2).on _).here (by rfl) ?_
  simp only [go_sem, Nat.reduceAdd, Nat.reduceEqDiff, Nat.reduceLeDiff, h1', h2', hi, hat, hdr]
  refine hK5 _ _ ?_
  conv => enter [5]; simp only [sl1, sl0, sz0, sz1]
  refine AW.ret ⟨.inr rfl, _, rfl, by simp, ?_⟩
  rw [hO]
  exact .keep (rowN_bel _ _)
end Fl
end Go.Proofs.Tryd
/-! Flow: function 17. -/
namespace Go.Proofs.Tryd
set_option linter.unusedSimpArgs false
set_option linter.unusedVariables false
open Go Go.Proofs.Ev
namespace Fl
variable {Γ : List (Nat × List AV)} {w : AV} {G : List (Nat × List AV)}
attribute [local go_sem] true_and List.length_map len_row one_row List.drop_zero blk_len dgm_len port_len out_len src_len file_len src_get port_get out_get blk_get dgm_get file_get dgm_all blk_all src_all port_all out_all file_all
set_option maxRecDepth 100000 in
theorem of_calls {σ : Sto} {ot oty n : Nat} {fc nm : AV} {rest tys : List AV} (h1 : σ[ot]? = some (.cells (fc :: nm :: .osl oty 0 n 1 :: rest))) (h2 : σ[oty]? = some (.cells tys)) (Mf : Nat → MapM) (hM : ∀ i, i < n → ∃ q, tys[i]? = some (.mapo q) ∧ σ[q]? = some (mapA (Mf i))) (dia : Int) (s : Src) : APureOn prog Γ 17 [.ref ot 0, i64 dia, s.enc] σ (.tup [i64 ((ofO n Mf dia s).getD 0), .val (.bool (ofO n Mf dia s).isSome)]) := by
 refine APureOn.of func17 rfl fun τ => ?_
 simp only [ntmps17, List.length_cons, List.length_nil, Nat.reduceAdd, Nat.reduceSub, List.replicate_succ, List.replicate_zero, List.cons_append, List.nil_append]
 have hM' : ∀ i, i < n → ∃ q, tys[i]? = some (.mapo q) ∧ (σ ++ τ)[q]? = some (mapA (Mf i)) := fun i hi => by obtain ⟨q, a, b⟩ := hM i hi; exact ⟨q, a, getL b τ⟩
 have h1' := getL h1 τ
 have h2' := getL h2 τ
 generalize σ ++ τ = σ at h1' h2' hM' ⊢
 have g1 := getL h1'
 have g2 := getL h2'
 refine AW.regl false [5, 6, 7] (by rfl) fun K1 hK1 => ?_
 simp only [go_sem, Nat.reduceAdd, Nat.reduceEqDiff, Nat.reduceLeDiff, g1, g2, Src.enc]
 refine hK1 _ _ ?_
 conv => enter [5]; simp only [sl1, sl0, sz0, sz1]
 refine AW.seq_k fun K2 hK2 => ?_
 refine AW.regtf false 20 (.val (.bool (decide (dia < 0) || decide (dia ≥ ((n : Nat) : Int))))) (by rfl) ?_ ?_
 ·skip
  cases h11 : (decide (dia < 0))
  ·skip
   simp only [go_sem, Nat.reduceAdd, Nat.reduceEqDiff, Nat.reduceLeDiff, g1, g2, Src.enc, h11]
   try simp [upd_at, h11, List.length_map, len_row, one_row, List.drop_zero, blk_len, dgm_len, port_len, out_len, src_len, file_len, src_get, port_get, out_get, blk_get, dgm_get, file_get, dgm_all, blk_all, src_all, port_all, out_all, file_all, g1, g2, Src.enc]
  ·skip
   simp only [go_sem, Nat.reduceAdd, Nat.reduceEqDiff, Nat.reduceLeDiff, g1, g2, Src.enc, h11]
   try simp [upd_at, h11, List.length_map, len_row, one_row, List.drop_zero, blk_len, dgm_len, port_len, out_len, src_len, file_len, src_get, port_get, out_get, blk_get, dgm_get, file_get, dgm_all, blk_all, src_all, port_all, out_all, file_all, g1, g2, Src.enc]
 conv => enter [5]; simp only [sz0, sz1]
 refine AW.cond rfl (fun hc20 => ?_) (fun hc20 => ?_)
 ·skip
  have hO : ofO n Mf dia s = none := by rw [ofO, if_pos hc20]
  refine AW.regl false [6, 7] (by rfl) fun K4 hK4 => ?_
  simp only [go_sem, Nat.reduceAdd, Nat.reduceEqDiff, Nat.reduceLeDiff, g1, g2]
  refine hK4 _ _ ?_
  conv => enter [5]; simp only [sl1, sl0, sz0, sz1]
  refine AW.ret ⟨.inr rfl, _, rfl, by simp, ?_⟩
  rw [hO]
  exact .keep rfl
 ·skip
  have hd0 : 0 ≤ dia ∧ dia < ((n : Nat) : Int) := by simp at hc20; omega
  obtain ⟨i, hi⟩ := Int.eq_ofNat_of_zero_le hd0.1
  have hin : i < n := by omega
  have hO : ofO n Mf dia s = look (Mf i) (s.block, s.port) := by rw [ofO, if_neg (ne_true_of_eq_false hc20), hi, Int.toNat_natCast]
  obtain ⟨q, hq1, hq2⟩ := hM' i hin
  have hat := at_osl (o := oty) (k := .i64) hin
  have hdr := dr_at hq1
  have hlk := fun l => lk88t (getL hq2 l) s.block s.port
  refine AW.skip ?_
  refine hK2 _ _ ?_
  refine AW.regdl mixed false [8, 9] (by kernel_rfl) (by rfl) fun K5 hK5 => ?_
  simp only [go_sem, Nat.reduceAdd, Nat.reduceEqDiff, Nat.reduceLeDiff, g1, g2, Src.enc, hi, hat, hdr, hlk, aExtract]
  refine hK5 _ ?_
  conv => enter [5]; simp only [sl1, sl0, sz0, sz1]
  refine AW.regl false [6, 7] (by rfl) fun K6 hK6 => ?_
  simp only [go_sem, Nat.reduceAdd, Nat.reduceEqDiff, Nat.reduceLeDiff, g1, g2]
  refine hK6 _ _ ?_
  conv => enter [5]; simp only [sl1, sl0, sz0, sz1]
  refine AW.ret ⟨.inr rfl, _, rfl, by simp, ?_⟩
  rw [hO]
  exact .keep rfl
end Fl
end Go.Proofs.Tryd
/-! Flow: function 18. -/
namespace Go.Proofs.Tryd
set_option linter.unusedSimpArgs false
set_option linter.unusedVariables false
open Go Go.Proofs.Ev
namespace Fl
variable {Γ : List (Nat × List AV)} {w : AV} {G : List (Nat × List AV)}
set_option maxRecDepth 100000 in
theorem find_calls {σ : Sto} {ot on : Nat} {fc : AV} {rest : List AV} (N : List (ByteArray × Nat)) (h1 : σ[ot]? = some (.cells (fc :: .mapo on :: rest))) (h2 : σ[on]? = some (mapN N)) (s : ByteArray) : APureOn prog Γ 18 [.ref ot 0, .val (.string s)] σ (.tup [i64 (((lookN N s).getD 0 : Nat) : Int), .val (.bool (lookN N s).isSome)]) := by
 refine APureOn.of func18 rfl fun τ => ?_
 simp only [ntmps18, List.length_cons, List.length_nil, Nat.reduceAdd, Nat.reduceSub, List.replicate_succ, List.replicate_zero, List.cons_append, List.nil_append]
 have h1' := getL h1 τ
 have h2' := getL h2 τ
 generalize σ ++ τ = σ at h1' h2' ⊢
 have g1 := getL h1'
 have g2 := getL h2'
 have hlk := lkNt h2' s
 refine AW.regl false [4, 5] (by rfl) fun K1 hK1 => ?_
 simp only [go_sem, Nat.reduceAdd, Nat.reduceEqDiff, Nat.reduceLeDiff, true_and, List.length_map, len_row, one_row, List.drop_zero, blk_len, dgm_len, port_len, out_len, src_len, file_len, src_get, port_get, out_get, blk_get, dgm_get, file_get, dgm_all, blk_all, src_all, port_all, out_all, file_all, h1', hlk, aExtract]
 refine hK1 _ _ ?_
 conv => enter [5]; simp only [sl1, sl0, sz0, sz1]
 refine AW.regl false [6, 7] (by rfl) fun K2 hK2 => ?_
 simp only [go_sem, Nat.reduceAdd, Nat.reduceEqDiff, Nat.reduceLeDiff, true_and, List.length_map, len_row, one_row, List.drop_zero, blk_len, dgm_len, port_len, out_len, src_len, file_len, src_get, port_get, out_get, blk_get, dgm_get, file_get, dgm_all, blk_all, src_all, port_all, out_all, file_all, h1', hlk, aExtract]
 refine hK2 _ _ ?_
 conv => enter [5]; simp only [sl1, sl0, sz0, sz1]
 refine AW.regl false [4, 5] (by rfl) fun K3 hK3 => ?_
 simp only [go_sem, Nat.reduceAdd, Nat.reduceEqDiff, Nat.reduceLeDiff, true_and, List.length_map, len_row, one_row, List.drop_zero, blk_len, dgm_len, port_len, out_len, src_len, file_len, src_get, port_get, out_get, blk_get, dgm_get, file_get, dgm_all, blk_all, src_all, port_all, out_all, file_all, h1', hlk, aExtract]
 refine hK3 _ _ ?_
 conv => enter [5]; simp only [sl1, sl0, sz0, sz1]
 refine AW.ret ⟨.inr rfl, _, rfl, by simp, ?_⟩
 exact .keep rfl
end Fl
end Go.Proofs.Tryd
/-! Flow: function 20. -/
namespace Go.Proofs.Tryd
set_option linter.unusedSimpArgs false
set_option linter.unusedVariables false
open Go Go.Proofs.Ev
namespace Fl
variable {Γ : List (Nat × List AV)} {w : AV} {G : List (Nat × List AV)}
set_option maxRecDepth 100000 in
theorem dias_calls {σ : Sto} {ot : Nat} {a b c e : AV} {dg : List Nat} (h1 : σ[ot]? = some (.cells [a, b, c, e, rowN dg])) (hn : dg.length ≤ 4000) : APureOn prog Γ 20 [.ref ot 0] σ (rowN dg) := by
 refine APureOn.of func20 rfl fun τ => ?_
 simp only [ntmps20, List.length_cons, List.length_nil, Nat.reduceAdd, Nat.reduceSub, List.replicate_succ, List.replicate_zero, List.cons_append, List.nil_append]
 have h1' := getL h1 τ
 generalize σ ++ τ = σ at h1' ⊢
 refine AW.regl false [2] (by rfl) fun K1 hK1 => ?_
 simp only [go_sem, Nat.reduceAdd, Nat.reduceEqDiff, Nat.reduceLeDiff, true_and, List.length_map, len_row, one_row, List.drop_zero, blk_len, dgm_len, port_len, out_len, src_len, file_len, src_get, port_get, out_get, blk_get, dgm_get, file_get, dgm_all, blk_all, src_all, port_all, out_all, file_all, h1', rowN_cells]
 refine hK1 _ _ ?_
 conv => enter [5]; simp only [sl1, sl0, sz0, sz1]
 refine AW.regl false [2] (by rfl) fun K2 hK2 => ?_
 simp only [go_sem, Nat.reduceAdd, Nat.reduceEqDiff, Nat.reduceLeDiff, true_and, List.length_map, len_row, one_row, List.drop_zero, blk_len, dgm_len, port_len, out_len, src_len, file_len, src_get, port_get, out_get, blk_get, dgm_get, file_get, dgm_all, blk_all, src_all, port_all, out_all, file_all, h1', rowN_cells]
 refine sC.of en36 ((clone_calls dg hn).on _).here (by rfl) ?_
 simp only [go_sem, Nat.reduceAdd, Nat.reduceEqDiff, Nat.reduceLeDiff, true_and, List.length_map, len_row, one_row, List.drop_zero, blk_len, dgm_len, port_len, out_len, src_len, file_len, src_get, port_get, out_get, blk_get, dgm_get, file_get, dgm_all, blk_all, src_all, port_all, out_all, file_all, h1', rowN_cells]
 refine hK2 _ _ ?_
 conv => enter [5]; simp only [sl1, sl0, sz0, sz1]
 refine AW.ret ⟨.inr rfl, _, rfl, by simp, ?_⟩
 exact .keep (rowN_bel _ _)
end Fl
end Go.Proofs.Tryd
/-! The files of the document as those of the program. -/
namespace Go.Proofs.Tryd
set_option linter.unusedSimpArgs false
set_option linter.unusedVariables false
open Go Go.Proofs.Ev
variable {Γ : List (Nat × List AV)}
set_option maxRecDepth 100000 in
theorem osource_calls (s : Src) : APure prog Γ 30 [s.enc] s.enc := by
 refine APure.of func30 rfl fun σ => ?_
 simp only [ntmps30, List.length_cons, List.length_nil, Nat.reduceAdd, Nat.reduceSub, List.replicate_succ, List.replicate_zero, List.cons_append, List.nil_append]
 refine AW.regl false [1, 2] (by rfl) fun K1 hK1 => ?_
 simp only [go_sem, Nat.reduceAdd, Nat.reduceEqDiff, Nat.reduceLeDiff, true_and, src_all, Src.enc]
 refine hK1 _ _ ?_
 conv => enter [5]; simp only [sl1, sl0, sz0, sz1]
 refine AW.regl false [] (by rfl) fun K2 hK2 => ?_
 simp only [go_sem, Nat.reduceAdd, Nat.reduceEqDiff, Nat.reduceLeDiff, true_and, src_all, Src.enc]
 refine hK2 _ _ ?_
 conv => enter [5]; simp only [sl1, sl0, sz0, sz1, upd_none, upd_at]
 refine AW.ret ⟨.inr rfl, _, ret_cell (v := s.enc) rfl ((load_app σ _ 26 1 0).trans (by simp only [go_sem, aLoadAt] <;> rfl)), by simp, ?_⟩
 exact .keep rfl

set_option maxRecDepth 100000 in
theorem oblock_calls (b : Blk) (hb : b.src.length ≤ 40) : APure prog Γ 31 [b.enc] b.own.enc := by
 refine APure.of func31 rfl fun σ => ?_
 simp only [ntmps31, List.length_cons, List.length_nil, Nat.reduceAdd, Nat.reduceSub, List.replicate_succ, List.replicate_zero, List.cons_append, List.nil_append]
 refine AW.regl false [1, 2] (by rfl) fun K1 hK1 => ?_
 simp only [go_sem, Nat.reduceAdd, Nat.reduceEqDiff, Nat.reduceLeDiff, true_and, blk_all, List.length_map, rsrc_get]
 refine hK1 _ _ ?_
 conv => enter [5]; simp only [sl1, sl0, sz0, sz1]
 refine AW.regl false [3] (by rfl) fun K2 hK2 => ?_
 simp only [go_sem, Nat.reduceAdd, Nat.reduceEqDiff, Nat.reduceLeDiff, true_and, blk_all, List.length_map, rsrc_get, Blk.enc]
 refine hK2 _ _ ?_
 conv => enter [5]; simp only [sl1, sl0, sz0, sz1, upd_none, upd_at]
 refine AW.cap 2 ?_
 simp only [List.append_assoc, List.cons_append, List.nil_append]
 refine AW.own (σ.length + 2) 6 (σ.length + 3) ((app_get σ _ 2).trans rfl) rfl ((app_get σ _ 3).trans rfl) (by decide) ?_
 simp only [app_set, List.set_cons_zero, List.set_cons_succ]
 refine AW.seq_k fun K3 hK3 => ?_
 refine AW.regl false [4] (by rfl) fun K4 hK4 => ?_
 simp only [go_sem, Nat.reduceAdd, Nat.reduceEqDiff, Nat.reduceLeDiff, true_and, blk_all, List.length_map, rsrc_get]
 refine hK4 _ _ ?_
 conv => enter [5]; simp only [sl1, sl0, sz0, sz1]
 refine AW.block ?_
 refine AW.loop_wk (α := Nat) (fun j => [.any, (.ref σ.length 0), (.ref (σ.length + 1) 0), (.ref (σ.length + 2) 0), (.val (.int .i64 (j : Nat))), .any, .any, .any, .any, .any, .any, .any, .any, .any, .any, .any, .any, .any, .any, .any, .any, .any, .any, .any, .any, .any, .any, .any, .any, .any, .any, .any, .any, .any, .any, .any, .any]) (fun j => σ ++ [.cells b.enc.cells, .cells [i64 0, i64 0, i64 0, i64 0, .val (.int .i32 0), .val (.int .i32 0), .nilsl], .cells [i64 b.kind, i64 b.op, i64 b.sub, i64 b.n, .val (.int .i32 b.x), .val (.int .i32 b.y), .slo true 2 ((b.src.take j).map Src.enc) (σ.length + 3)], .cap j 2]) (fun j => b.src.length - j) (fun j => j ≤ b.src.length) 0 ?_ ?_
 ·exact ⟨Nat.zero_le _, by simp [Wk], rfl⟩
 ·intro j hj
  refine AW.seq_k fun K5 hK5 => ?_
  refine AW.regl false [22] (by rfl) fun K6 hK6 => ?_
  simp only [go_sem, Nat.reduceAdd, Nat.reduceEqDiff, Nat.reduceLeDiff, true_and, blk_all, List.length_map, rsrc_get, Blk.enc]
  refine hK6 _ _ ?_
  conv => enter [5]; simp only [sl1, sl0, sz0, sz1]
  refine AW.cond rfl (fun hc22 => ?_) (fun hc22 => ?_)
  ·skip
   have hj1 : j < b.src.length := by simpa using hc22
   obtain ⟨s, hs⟩ : ∃ z, z = b.src[j] := ⟨_, rfl⟩
   have hy : (b.src.map Src.enc)[j]? = some s.enc := by rw [hs]; simp [hj1]
   have hap := app_at (en := Src.enc) hj1 (by omega) true 2 16 (by decide)
   have htk : (b.src.take j).map Src.enc ++ [s.enc] = (b.src.take (j + 1)).map Src.enc := by rw [hs]; exact take_at Src.enc hj1
   refine AW.skip ?_
   refine hK5 _ _ ?_
   refine AW.seq_k fun K7 hK7 => ?_
   refine AW.block ?_
   refine AW.lastml mixed false [] 9 (by kernel_rfl) (by kernel_rfl) (by rfl) fun K hK => ?_
   simp only [go_sem, Nat.reduceAdd, Nat.reduceEqDiff, Nat.reduceLeDiff, true_and, blk_all, List.length_map, rsrc_get, Blk.enc, at_row hy, hap, row1_30 _ _ (src_len s) (src_all s), htk]
   refine qC.of en30 ((osource_calls s).on _).here (by rfl) ?_
   simp only [go_sem, Nat.reduceAdd, Nat.reduceEqDiff, Nat.reduceLeDiff, true_and, blk_all, List.length_map, rsrc_get, Blk.enc, at_row hy, hap, row1_30 _ _ (src_len s) (src_all s), htk]
   refine hK _ _ fun env' hw => ?_
   simp only [setL_cons, setL_nil, List.set_cons_zero, List.set_cons_succ, upd_none, upd_at] at hw
   refine hK7 _ _ (AW.weaken hw ?_); clear hw
   refine AW.lastl false [4] (by rfl) fun K hK => ?_
   simp only [go_sem, Nat.reduceAdd, Nat.reduceEqDiff, Nat.reduceLeDiff, true_and, blk_all, List.length_map, rsrc_get]
   refine hK _ _ fun env' hw => ?_
   simp only [setL_cons, setL_nil, List.set_cons_zero, List.set_cons_succ] at hw
   refine ⟨j + 1, by omega, by omega, ?_, rfl⟩
   refine hw.trans ?_
   simp [Wk, wrap_succ (show j < 1000 by omega) (by decide)]
  ·skip
   have hj1 : ¬ j < b.src.length := by simpa using hc22
   refine AW.exit ?_
   refine hK3 _ _ ?_
   refine AW.regl false [] (by rfl) fun K8 hK8 => ?_
   simp only [go_sem, Nat.reduceAdd, Nat.reduceEqDiff, Nat.reduceLeDiff, true_and, blk_all, List.length_map, rsrc_get]
   refine hK8 _ _ ?_
   conv => enter [5]; simp only [sl1, sl0, sz0, sz1, upd_none, upd_at]
   have htk : b.src.take j = b.src := List.take_of_length_le (by omega)
   rw [htk]
   refine AW.ret ⟨.inr rfl, _, ret_cell (v := .agg [i64 b.kind, i64 b.op, i64 b.sub, i64 b.n, .val (.int .i32 b.x), .val (.int .i32 b.y), .slo true 2 (b.src.map Src.enc) (σ.length + 3)]) rfl ((load_app σ _ 32 1 0).trans (by simp only [go_sem, aLoadAt] <;> rfl)), by simp, ?_⟩
   exact .agg (.cons (.keep rfl) (.cons (.keep rfl) (.cons (.keep rfl) (.cons (.keep rfl) (.cons (.keep rfl) (.cons (.keep rfl) (.cons (frz_row src_bel (by omega) b.src) .nil)))))))

set_option maxRecDepth 100000 in
set_option maxHeartbeats 1000000 in
theorem own_calls (f : FileM) (hs : f.small) : APure prog Γ 10 [f.enc] f.own.enc := by
 refine APure.of func10 rfl fun σ => ?_
 simp only [ntmps10, List.length_cons, List.length_nil, Nat.reduceAdd, Nat.reduceSub, List.replicate_succ, List.replicate_zero, List.cons_append, List.nil_append]
 refine AW.regl false [1, 2] (by rfl) fun K1 hK1 => ?_
 simp only [go_sem, Nat.reduceAdd, Nat.reduceEqDiff, Nat.reduceLeDiff, true_and, file_all, dgm_all, blk_all, List.length_map, rsrc_get, rblk_get, rdgm_get]
 refine hK1 _ _ ?_
 conv => enter [5]; simp only [sl1, sl0, sz0, sz1]
 refine AW.regl false [3] (by rfl) fun K2 hK2 => ?_
 simp only [go_sem, Nat.reduceAdd, Nat.reduceEqDiff, Nat.reduceLeDiff, true_and, file_all, dgm_all, blk_all, List.length_map, rsrc_get, rblk_get, rdgm_get]
 refine hK2 _ _ ?_
 conv => enter [5]; simp only [sl1, sl0, sz0, sz1]
 refine AW.cap 4 ?_
 simp only [List.append_assoc, List.cons_append, List.nil_append]
 refine AW.own (σ.length + 2) 0 (σ.length + 3) ((app_get σ _ 2).trans rfl) rfl ((app_get σ _ 3).trans rfl) (by decide) ?_
 simp only [app_set, List.set_cons_zero, List.set_cons_succ]
 refine AW.seq_k fun K3 hK3 => ?_
 refine AW.regl false [4] (by rfl) fun K4 hK4 => ?_
 simp only [go_sem, Nat.reduceAdd, Nat.reduceEqDiff, Nat.reduceLeDiff, true_and, file_all, dgm_all, blk_all, List.length_map, rsrc_get, rblk_get, rdgm_get]
 refine hK4 _ _ ?_
 conv => enter [5]; simp only [sl1, sl0, sz0, sz1]
 refine AW.block ?_
 refine AW.loop_dr (α := Nat) (fun i => [.any, (.ref σ.length 0), (.ref (σ.length + 1) 0), (.ref (σ.length + 2) 0), (.val (.int .i64 (i : Nat))), .any, .any, .any, .any, .any, .any, .any, .any, .any, .any, .any, .any, .any, .any, .any, .any, .any, .any, .any, .any, .any, .any, .any, .any, .any, .any, .any, .any, .any, .any, .any, .any, .any, .any, .any, .any, .any, .any, .any, .any, .any, .any, .any, .any, .any, .any, .any, .any, .any, .any, .any, .any, .any, .any, .any, .any, .any, .any, .any, .any, .any, .any, .any, .any, .any, .any, .any, .any, .any, .any, .any, .any, .any, .any, .any, .any, .any, .any, .any, .any, .any, .any, .any, .any, .any, .any, .any, .any, .any, .any, .any, .any, .any, .any, .any, .any, .any, .any, .any, .any, .any, .any, .any, .any, .any]) (fun i => σ ++ [.cells f.enc.cells, .cells [.nilsl], .cells [.slo true 4 ((f.ds.take i).map (fun d : Dgm => d.own.enc)) (σ.length + 3)], .cap i 4]) (fun i => f.ds.length - i) (fun i => i ≤ f.ds.length) 0 ?_ ?_ ?_
 ·exact ⟨Nat.zero_le _, by simp [Wk], rfl⟩
 ·refine fun y _ => ⟨by simp [belL, AV.bel], bel_app σ fun a ha => ?_⟩
  simp only [List.mem_cons, List.not_mem_nil, or_false] at ha
  simp only [List.length_append, List.length_cons, List.length_nil]
  rcases ha with rfl | rfl | rfl | rfl
  ·exact file_bel f _
  ·rfl
  ·simp only [AO.bel, belL, AV.bel, Bool.and_true, Bool.and_eq_true, decide_eq_true_eq]
   exact ⟨by omega, belL_map _ _ fun x _ => dgm_bel x.own _⟩
  ·rfl
 ·intro i hi
  refine AW.seq_k fun K5 hK5 => ?_
  refine AW.regl false [14] (by rfl) fun K6 hK6 => ?_
  simp only [go_sem, Nat.reduceAdd, Nat.reduceEqDiff, Nat.reduceLeDiff, true_and, file_all, dgm_all, blk_all, List.length_map, rsrc_get, rblk_get, rdgm_get, FileM.enc]
  refine hK6 _ _ ?_
  conv => enter [5]; simp only [sl1, sl0, sz0, sz1]
  refine AW.cond rfl (fun hc14 => ?_) (fun hc14 => ?_)
  ·skip
   have hi1 : i < f.ds.length := by simpa using hc14
   obtain ⟨d, hd⟩ : ∃ z, z = f.ds[i] := ⟨_, rfl⟩
   have hx : (f.ds.map Dgm.enc)[i]? = some d.enc := by rw [hd]; simp [hi1]
   obtain ⟨k1, k2, k3, k4, k5⟩ := hs.2 d (by rw [hd]; exact List.getElem_mem hi1)
   have hs1 := hs.1
   refine AW.skip ?_
   refine hK5 _ _ ?_
   refine AW.seq_k fun K7 hK7 => ?_
   refine AW.block ?_
   refine AW.regl false [5] (by rfl) fun K8 hK8 => ?_
   simp only [go_sem, Nat.reduceAdd, Nat.reduceEqDiff, Nat.reduceLeDiff, true_and, file_all, dgm_all, blk_all, List.length_map, rsrc_get, rblk_get, rdgm_get, FileM.enc, at_row hx]
   refine hK8 _ _ ?_
   conv => enter [5]; simp only [sl1, sl0, sz0, sz1, upd_none, upd_at]
   refine AW.regl false [6] (by rfl) fun K9 hK9 => ?_
   simp only [go_sem, Nat.reduceAdd, Nat.reduceEqDiff, Nat.reduceLeDiff, true_and, file_all, dgm_all, blk_all, List.length_map, rsrc_get, rblk_get, rdgm_get, dgm_cells d]
   refine hK9 _ _ ?_
   conv => enter [5]; simp only [sl1, sl0, sz0, sz1, upd_none, upd_at]
   refine AW.cap 2 ?_
   refine AW.cap 4 ?_
   refine AW.cap 7 ?_
   simp only [List.append_assoc, List.cons_append, List.nil_append]
   refine AW.own (σ.length + 5) 1 (σ.length + 6) ((app_get σ _ 5).trans rfl) rfl ((app_get σ _ 6).trans rfl) (by decide) ?_
   simp only [app_set, List.set_cons_zero, List.set_cons_succ]
   refine AW.own (σ.length + 5) 2 (σ.length + 7) ((app_get σ _ 5).trans rfl) rfl ((app_get σ _ 7).trans rfl) (by decide) ?_
   simp only [app_set, List.set_cons_zero, List.set_cons_succ]
   refine AW.own (σ.length + 5) 3 (σ.length + 8) ((app_get σ _ 5).trans rfl) rfl ((app_get σ _ 8).trans rfl) (by decide) ?_
   simp only [app_set, List.set_cons_zero, List.set_cons_succ]
   refine AW.seq_k fun K10 hK10 => ?_
   refine AW.regl false [7] (by rfl) fun K11 hK11 => ?_
   simp only [go_sem, Nat.reduceAdd, Nat.reduceEqDiff, Nat.reduceLeDiff, true_and, file_all, dgm_all, blk_all, List.length_map, rsrc_get, rblk_get, rdgm_get]
   refine hK11 _ _ ?_
   conv => enter [5]; simp only [sl1, sl0, sz0, sz1]
   refine AW.block ?_
   refine AW.loop_wk (α := Nat) (fun j => [.any, (.ref σ.length 0), (.ref (σ.length + 1) 0), (.ref (σ.length + 2) 0), (.val (.int .i64 (i : Nat))), (.ref (σ.length + 4) 0), (.ref (σ.length + 5) 0), (.val (.int .i64 (j : Nat))), .any, .any, .any, .any, .any, .any, .any, .any, .any, .any, .any, .any, .any, .any, .any, .any, .any, .any, .any, .any, .any, .any, .any, .any, .any, .any, .any, .any, .any, .any, .any, .any, .any, .any, .any, .any, .any, .any, .any, .any, .any, .any, .any, .any, .any, .any, .any, .any, .any, .any, .any, .any, .any, .any, .any, .any, .any, .any, .any, .any, .any, .any, .any, .any, .any, .any, .any, .any, .any, .any, .any, .any, .any, .any, .any, .any, .any, .any, .any, .any, .any, .any, .any, .any, .any, .any, .any, .any, .any, .any, .any, .any, .any, .any, .any, .any, .any, .any, .any, .any, .any, .any]) (fun j => σ ++ [.cells f.enc.cells, .cells [.nilsl], .cells [.slo true 4 ((f.ds.take i).map (fun d : Dgm => d.own.enc)) (σ.length + 3)], .cap i 4, .cells d.enc.cells, .cells [str d.name, .slo true 2 ((d.ins.take j).map PortM.enc) (σ.length + 6), .slo true 4 ([]) (σ.length + 7), .slo true 7 ([]) (σ.length + 8)], .cap j 2, .cap 0 4, .cap 0 7]) (fun j => d.ins.length - j) (fun j => j ≤ d.ins.length) 0 ?_ ?_
   ·exact ⟨Nat.zero_le _, by simp [Wk], rfl⟩
   ·intro j hj
    refine AW.seq_k fun K12 hK12 => ?_
    refine AW.regl false [29] (by rfl) fun K13 hK13 => ?_
    simp only [go_sem, Nat.reduceAdd, Nat.reduceEqDiff, Nat.reduceLeDiff, true_and, file_all, dgm_all, blk_all, List.length_map, rsrc_get, rblk_get, rdgm_get, dgm_cells d]
    refine hK13 _ _ ?_
    conv => enter [5]; simp only [sl1, sl0, sz0, sz1]
    refine AW.cond rfl (fun hc29 => ?_) (fun hc29 => ?_)
    ·skip
     have hj1 : j < d.ins.length := by simpa using hc29
     obtain ⟨u, hu⟩ : ∃ z, z = d.ins[j] := ⟨_, rfl⟩
     have hy : (d.ins.map PortM.enc)[j]? = some u.enc := by rw [hu]; simp [hj1]
     have hap := app_at (en := PortM.enc) hj1 (by omega) true 2 24 (by decide)
     have htk : (d.ins.take j).map PortM.enc ++ [.agg [str u.name, i64 u.type]] = (d.ins.take (j + 1)).map PortM.enc := by rw [hu]; exact take_at PortM.enc hj1
     refine AW.skip ?_
     refine hK12 _ _ ?_
     refine AW.seq_k fun K14 hK14 => ?_
     refine AW.block ?_
     refine AW.lastml mixed false [] 16 (by kernel_rfl) (by kernel_rfl) (by rfl) fun K hK => ?_
     simp only [go_sem, Nat.reduceAdd, Nat.reduceEqDiff, Nat.reduceLeDiff, true_and, file_all, dgm_all, blk_all, List.length_map, rsrc_get, rblk_get, rdgm_get, dgm_cells d, at_row hy, hap, PortM.enc, row1_34 _ _ (port_len u) (port_all u), htk]
     refine hK _ _ fun env' hw => ?_
     simp only [setL_cons, setL_nil, List.set_cons_zero, List.set_cons_succ, upd_none, upd_at] at hw
     refine hK14 _ _ (AW.weaken hw ?_); clear hw
     refine AW.lastl false [7] (by rfl) fun K hK => ?_
     simp only [go_sem, Nat.reduceAdd, Nat.reduceEqDiff, Nat.reduceLeDiff, true_and, file_all, dgm_all, blk_all, List.length_map, rsrc_get, rblk_get, rdgm_get]
     refine hK _ _ fun env' hw => ?_
     simp only [setL_cons, setL_nil, List.set_cons_zero, List.set_cons_succ] at hw
     refine ⟨j + 1, by omega, by omega, ?_, rfl⟩
     refine hw.trans ?_
     simp [Wk, wrap_succ (show j < 1000 by omega) (by decide)]
    ·skip
     have hj1 : j = d.ins.length := by
      have : ¬ j < d.ins.length := by simpa using hc29
      omega
     subst hj1
     rw [List.take_length]
     refine AW.exit ?_
     refine hK10 _ _ ?_
     refine AW.seq_k fun K15 hK15 => ?_
     refine AW.regl false [8] (by rfl) fun K16 hK16 => ?_
     simp only [go_sem, Nat.reduceAdd, Nat.reduceEqDiff, Nat.reduceLeDiff, true_and, file_all, dgm_all, blk_all, List.length_map, rsrc_get, rblk_get, rdgm_get]
     refine hK16 _ _ ?_
     conv => enter [5]; simp only [sl1, sl0, sz0, sz1]
     refine AW.block ?_
     refine AW.loop_wk (α := Nat) (fun j => [.any, (.ref σ.length 0), (.ref (σ.length + 1) 0), (.ref (σ.length + 2) 0), (.val (.int .i64 (i : Nat))), (.ref (σ.length + 4) 0), (.ref (σ.length + 5) 0), .any, (.val (.int .i64 (j : Nat))), .any, .any, .any, .any, .any, .any, .any, .any, .any, .any, .any, .any, .any, .any, .any, .any, .any, .any, .any, .any, .any, .any, .any, .any, .any, .any, .any, .any, .any, .any, .any, .any, .any, .any, .any, .any, .any, .any, .any, .any, .any, .any, .any, .any, .any, .any, .any, .any, .any, .any, .any, .any, .any, .any, .any, .any, .any, .any, .any, .any, .any, .any, .any, .any, .any, .any, .any, .any, .any, .any, .any, .any, .any, .any, .any, .any, .any, .any, .any, .any, .any, .any, .any, .any, .any, .any, .any, .any, .any, .any, .any, .any, .any, .any, .any, .any, .any, .any, .any, .any, .any]) (fun j => σ ++ [.cells f.enc.cells, .cells [.nilsl], .cells [.slo true 4 ((f.ds.take i).map (fun d : Dgm => d.own.enc)) (σ.length + 3)], .cap i 4, .cells d.enc.cells, .cells [str d.name, .slo true 2 (d.ins.map PortM.enc) (σ.length + 6), .slo true 4 ((d.outs.take j).map OutM.enc) (σ.length + 7), .slo true 7 ([]) (σ.length + 8)], .cap d.ins.length 2, .cap j 4, .cap 0 7]) (fun j => d.outs.length - j) (fun j => j ≤ d.outs.length) 0 ?_ ?_
     ·exact ⟨Nat.zero_le _, by simp [Wk], rfl⟩
     ·intro j hj
      refine AW.seq_k fun K17 hK17 => ?_
      refine AW.regl false [54] (by rfl) fun K18 hK18 => ?_
      simp only [go_sem, Nat.reduceAdd, Nat.reduceEqDiff, Nat.reduceLeDiff, true_and, file_all, dgm_all, blk_all, List.length_map, rsrc_get, rblk_get, rdgm_get, dgm_cells d]
      refine hK18 _ _ ?_
      conv => enter [5]; simp only [sl1, sl0, sz0, sz1]
      refine AW.cond rfl (fun hc54 => ?_) (fun hc54 => ?_)
      ·skip
       have hj1 : j < d.outs.length := by simpa using hc54
       obtain ⟨u, hu⟩ : ∃ z, z = d.outs[j] := ⟨_, rfl⟩
       have hy : (d.outs.map OutM.enc)[j]? = some u.enc := by rw [hu]; simp [hj1]
       have hap := app_at (en := OutM.enc) hj1 (by omega) true 4 40 (by decide)
       have htk : (d.outs.take j).map OutM.enc ++ [.agg [str u.port.name, i64 u.port.type, i64 u.src.block, i64 u.src.port]] = (d.outs.take (j + 1)).map OutM.enc := by rw [hu]; exact take_at OutM.enc hj1
       refine AW.skip ?_
       refine hK17 _ _ ?_
       refine AW.seq_k fun K19 hK19 => ?_
       refine AW.block ?_
       refine AW.lastml mixed false [] 26 (by kernel_rfl) (by kernel_rfl) (by rfl) fun K hK => ?_
       simp only [go_sem, Nat.reduceAdd, Nat.reduceEqDiff, Nat.reduceLeDiff, true_and, file_all, dgm_all, blk_all, List.length_map, rsrc_get, rblk_get, rdgm_get, dgm_cells d, at_row hy, hap, OutM.enc, Src.enc, row1_29 _ _ (out_len u) (out_all u), htk]
       refine qC.of en30 ((osource_calls u.src).on _).here (by rfl) ?_
       simp only [go_sem, Nat.reduceAdd, Nat.reduceEqDiff, Nat.reduceLeDiff, true_and, file_all, dgm_all, blk_all, List.length_map, rsrc_get, rblk_get, rdgm_get, dgm_cells d, at_row hy, hap, OutM.enc, Src.enc, row1_29 _ _ (out_len u) (out_all u), htk]
       refine hK _ _ fun env' hw => ?_
       simp only [setL_cons, setL_nil, List.set_cons_zero, List.set_cons_succ, upd_none, upd_at] at hw
       refine hK19 _ _ (AW.weaken hw ?_); clear hw
       refine AW.lastl false [8] (by rfl) fun K hK => ?_
       simp only [go_sem, Nat.reduceAdd, Nat.reduceEqDiff, Nat.reduceLeDiff, true_and, file_all, dgm_all, blk_all, List.length_map, rsrc_get, rblk_get, rdgm_get]
       refine hK _ _ fun env' hw => ?_
       simp only [setL_cons, setL_nil, List.set_cons_zero, List.set_cons_succ] at hw
       refine ⟨j + 1, by omega, by omega, ?_, rfl⟩
       refine hw.trans ?_
       simp [Wk, wrap_succ (show j < 1000 by omega) (by decide)]
      ·skip
       have hj1 : j = d.outs.length := by
        have : ¬ j < d.outs.length := by simpa using hc54
        omega
       subst hj1
       rw [List.take_length]
       refine AW.exit ?_
       refine hK15 _ _ ?_
       refine AW.seq_k fun K20 hK20 => ?_
       refine AW.regl false [9] (by rfl) fun K21 hK21 => ?_
       simp only [go_sem, Nat.reduceAdd, Nat.reduceEqDiff, Nat.reduceLeDiff, true_and, file_all, dgm_all, blk_all, List.length_map, rsrc_get, rblk_get, rdgm_get]
       refine hK21 _ _ ?_
       conv => enter [5]; simp only [sl1, sl0, sz0, sz1]
       refine AW.block ?_
       refine AW.loop_wk (α := Nat) (fun j => [.any, (.ref σ.length 0), (.ref (σ.length + 1) 0), (.ref (σ.length + 2) 0), (.val (.int .i64 (i : Nat))), (.ref (σ.length + 4) 0), (.ref (σ.length + 5) 0), .any, .any, (.val (.int .i64 (j : Nat))), .any, .any, .any, .any, .any, .any, .any, .any, .any, .any, .any, .any, .any, .any, .any, .any, .any, .any, .any, .any, .any, .any, .any, .any, .any, .any, .any, .any, .any, .any, .any, .any, .any, .any, .any, .any, .any, .any, .any, .any, .any, .any, .any, .any, .any, .any, .any, .any, .any, .any, .any, .any, .any, .any, .any, .any, .any, .any, .any, .any, .any, .any, .any, .any, .any, .any, .any, .any, .any, .any, .any, .any, .any, .any, .any, .any, .any, .any, .any, .any, .any, .any, .any, .any, .any, .any, .any, .any, .any, .any, .any, .any, .any, .any, .any, .any, .any, .any, .any, .any]) (fun j => σ ++ [.cells f.enc.cells, .cells [.nilsl], .cells [.slo true 4 ((f.ds.take i).map (fun d : Dgm => d.own.enc)) (σ.length + 3)], .cap i 4, .cells d.enc.cells, .cells [str d.name, .slo true 2 (d.ins.map PortM.enc) (σ.length + 6), .slo true 4 (d.outs.map OutM.enc) (σ.length + 7), .slo true 7 ((d.blocks.take j).map (fun b : Blk => b.own.enc)) (σ.length + 8)], .cap d.ins.length 2, .cap d.outs.length 4, .cap j 7]) (fun j => d.blocks.length - j) (fun j => j ≤ d.blocks.length) 0 ?_ ?_
       ·exact ⟨Nat.zero_le _, by simp [Wk], rfl⟩
       ·intro j hj
        refine AW.seq_k fun K22 hK22 => ?_
        refine AW.regl false [89] (by rfl) fun K23 hK23 => ?_
        simp only [go_sem, Nat.reduceAdd, Nat.reduceEqDiff, Nat.reduceLeDiff, true_and, file_all, dgm_all, blk_all, List.length_map, rsrc_get, rblk_get, rdgm_get, dgm_cells d]
        refine hK23 _ _ ?_
        conv => enter [5]; simp only [sl1, sl0, sz0, sz1]
        refine AW.cond rfl (fun hc89 => ?_) (fun hc89 => ?_)
        ·skip
         have hj1 : j < d.blocks.length := by simpa using hc89
         obtain ⟨u, hu⟩ : ∃ z, z = d.blocks[j] := ⟨_, rfl⟩
         have hy : (d.blocks.map Blk.enc)[j]? = some u.enc := by rw [hu]; simp [hj1]
         have hap := app_at (en := (fun b : Blk => b.own.enc)) hj1 (by omega) true 7 64 (by decide)
         have htk : (d.blocks.take j).map (fun b : Blk => b.own.enc) ++ [u.own.enc] = (d.blocks.take (j + 1)).map (fun b : Blk => b.own.enc) := by rw [hu]; exact take_at (fun b : Blk => b.own.enc) hj1
         refine AW.skip ?_
         refine hK22 _ _ ?_
         refine AW.seq_k fun K24 hK24 => ?_
         refine AW.block ?_
         refine AW.lastml mixed false [] 9 (by kernel_rfl) (by kernel_rfl) (by rfl) fun K hK => ?_
         simp only [go_sem, Nat.reduceAdd, Nat.reduceEqDiff, Nat.reduceLeDiff, true_and, file_all, dgm_all, blk_all, List.length_map, rsrc_get, rblk_get, rdgm_get, dgm_cells d, at_row hy, hap, row1_33 _ _ (blk_len u.own) (blk_all u.own), htk]
         refine qC.of en31 ((oblock_calls u (k5 u (by rw [hu]; exact List.getElem_mem hj1))).on _).here (by rfl) ?_
         simp only [go_sem, Nat.reduceAdd, Nat.reduceEqDiff, Nat.reduceLeDiff, true_and, file_all, dgm_all, blk_all, List.length_map, rsrc_get, rblk_get, rdgm_get, dgm_cells d, at_row hy, hap, row1_33 _ _ (blk_len u.own) (blk_all u.own), htk]
         refine hK _ _ fun env' hw => ?_
         simp only [setL_cons, setL_nil, List.set_cons_zero, List.set_cons_succ, upd_none, upd_at] at hw
         refine hK24 _ _ (AW.weaken hw ?_); clear hw
         refine AW.lastl false [9] (by rfl) fun K hK => ?_
         simp only [go_sem, Nat.reduceAdd, Nat.reduceEqDiff, Nat.reduceLeDiff, true_and, file_all, dgm_all, blk_all, List.length_map, rsrc_get, rblk_get, rdgm_get]
         refine hK _ _ fun env' hw => ?_
         simp only [setL_cons, setL_nil, List.set_cons_zero, List.set_cons_succ] at hw
         refine ⟨j + 1, by omega, by omega, ?_, rfl⟩
         refine hw.trans ?_
         simp [Wk, wrap_succ (show j < 1000 by omega) (by decide)]
        ·skip
         have hj1 : j = d.blocks.length := by
          have : ¬ j < d.blocks.length := by simpa using hc89
          omega
         subst hj1
         rw [List.take_length]
         have hap := app_at (en := (fun d : Dgm => d.own.enc)) hi1 (by omega) true 4 88 (by decide)
         have htk : (f.ds.take i).map (fun d : Dgm => d.own.enc) ++ [.agg [str d.name, rowAV 2 true (d.ins.map PortM.enc), rowAV 4 true (d.outs.map OutM.enc), rowAV 7 true (d.blocks.map fun b => b.own.enc)]] = (f.ds.take (i + 1)).map (fun d : Dgm => d.own.enc) := by rw [← dgm_own, hd]; exact take_at (fun d : Dgm => d.own.enc) hi1
         have hrow := fun σ => row1_37 σ (.agg [str d.name, rowAV 2 true (d.ins.map PortM.enc), rowAV 4 true (d.outs.map OutM.enc), rowAV 7 true (d.blocks.map fun b => b.own.enc)]) rfl (by rw [← dgm_own]; exact dgm_all d.own)
         refine AW.exit ?_
         refine hK20 _ _ ?_
         refine AW.still (σ.length + 5) ((app_get σ _ 5).trans rfl) ?_
         simp only [app_set, List.set_cons_zero, List.set_cons_succ, List.map_cons, List.map_nil, still_slo, still_val]
         refine AW.lastl false [] (by rfl) fun K hK => ?_
         simp only [go_sem, Nat.reduceAdd, Nat.reduceEqDiff, Nat.reduceLeDiff, true_and, file_all, dgm_all, blk_all, List.length_map, rsrc_get, rblk_get, rdgm_get, hap, hrow, htk]
         refine hK _ _ fun env' hw => ?_
         simp only [setL_cons, setL_nil, List.set_cons_zero, List.set_cons_succ] at hw
         refine hK7 _ _ (AW.weaken hw ?_); clear hw
         refine AW.lastl false [4] (by rfl) fun K hK => ?_
         simp only [go_sem, Nat.reduceAdd, Nat.reduceEqDiff, Nat.reduceLeDiff, true_and, file_all, dgm_all, blk_all, List.length_map, rsrc_get, rblk_get, rdgm_get]
         refine hK _ _ fun env' hw => ?_
         simp only [setL_cons, setL_nil, List.set_cons_zero, List.set_cons_succ] at hw
         refine ⟨i + 1, by omega, by omega, ?_, by simp [List.take_append, List.take_of_length_le, Dgm.enc, AV.cells]⟩
         refine hw.trans ?_
         simp [Wk, wrap_succ (show i < 1000 by omega) (by decide)]
  ·skip
   have hi1 : ¬ i < f.ds.length := by simpa using hc14
   refine AW.exit ?_
   refine hK3 _ _ ?_
   refine AW.regl false [] (by rfl) fun K25 hK25 => ?_
   simp only [go_sem, Nat.reduceAdd, Nat.reduceEqDiff, Nat.reduceLeDiff, true_and, file_all, dgm_all, blk_all, List.length_map, rsrc_get, rblk_get, rdgm_get]
   refine hK25 _ _ ?_
   conv => enter [5]; simp only [sl1, sl0, sz0, sz1, upd_none, upd_at]
   have htk : f.ds.take i = f.ds := List.take_of_length_le (by omega)
   rw [htk, file_own]
   refine AW.ret ⟨.inr rfl, _, ret_cell (v := .agg [.slo true 4 (f.ds.map fun d => d.own.enc) (σ.length + 3)]) rfl ((load_app σ _ 39 1 0).trans (by simp only [go_sem, aLoadAt] <;> rfl)), by simp, ?_⟩
   exact .agg (.cons (frz_row (fun (d : Dgm) n => dgm_bel d.own n) (by omega) f.ds) .nil)
end Go.Proofs.Tryd
/-! Flow: what the law reads of the types. -/
namespace Go.Proofs.Tryd
set_option linter.unusedSimpArgs false
set_option linter.unusedVariables false
open Go Go.Proofs.Ev
namespace Fl
variable {Γ : List (Nat × List AV)} {w : AV} {G : List (Nat × List AV)}
theorem u51 : prog.underlying 51 = some (.array 3 3) := by kernel_rfl
theorem z3 : (prog.info? 3).map (·.size) = some 1 := by kernel_rfl
theorem idx51_0 (o off : Nat) (k : IntKind) : aIndexAddr prog 51 (.ref o off) (.val (.int k 0)) = some (.ref o off) := by
 have h := u51
 obtain ⟨ie, hi, hs⟩ := Option.map_eq_some_iff.1 z3
 simp [aIndexAddr, h, hi, hs]
theorem idx51_1 (o off : Nat) (k : IntKind) : aIndexAddr prog 51 (.ref o off) (.val (.int k 1)) = some (.ref o (off + 1)) := by
 have h := u51
 obtain ⟨ie, hi, hs⟩ := Option.map_eq_some_iff.1 z3
 simp [aIndexAddr, h, hi, hs]
theorem idx51_2 (o off : Nat) (k : IntKind) : aIndexAddr prog 51 (.ref o off) (.val (.int k 2)) = some (.ref o (off + 2)) := by
 have h := u51
 obtain ⟨ie, hi, hs⟩ := Option.map_eq_some_iff.1 z3
 simp [aIndexAddr, h, hi, hs]
theorem bin_nil43 : aBin prog .neq 43 (.val (.pointer none)) (.val (.pointer none)) = some (.val (.bool false)) := by kernel_rfl
theorem lawCheck (hΓ : A.Words (GK w G)) (f : FileM) (hs : f.small) (hok : f.ok) (E : Int) (hE : E = chkC f.own) (σ : Sto) (b : Nat) (hb : b = σ.length + 4) : ACalls prog (GK w G) 7 [f.own.enc] σ (fun v σ' => ∃ p τ, v = .tup [p, i64 E] ∧ σ' = σ ++ τ ∧ aBin prog .neq 43 p (.val (.pointer none)) = some (.val (.bool (decide (E = 0)))) ∧ (E = 0 → p = .ref b 0 ∧ Fin f.own σ.length (σ ++ τ))) := by
 have hsz : ∀ d ∈ f.own.ds, SzD d := fun d hd => by
  obtain ⟨d', hd', rfl⟩ := List.mem_map.1 hd
  exact szD_own (szD_of (hs.2 d' hd'))
 have hgd : f.own.right = true → ∀ d ∈ f.own.ds, GoodD f.own d := fun h d hd => good_of h hd
 refine (check_calls hΓ f.own (own_ok hok) (by rw [own_flen]; have := hs.1; omega) hsz hgd σ).mono ?_
 rintro v σ' ⟨hp, hv⟩
 obtain ⟨τ, rfl⟩ := pre_app hp
 subst hE hb
 rcases hv with ⟨h1, rfl⟩ | ⟨h1, rfl, h2⟩
 ·exact ⟨_, τ, rfl, rfl, by rw [decide_eq_false h1]; exact bin_nil43, fun h => absurd h h1⟩
 ·exact ⟨_, τ, by rw [h1], rfl, by rw [decide_eq_true h1]; exact ptrn43 _ _, fun _ => ⟨rfl, h2⟩⟩
/-- What is read of the types of a sound file. -/
theorem fin_use {f : FileM} {b : Nat} {ρ : Sto} (hF : Fin f.own b ρ) (hr : f.right = true) (hs : f.small) : ∃ (N : List (ByteArray × Nat)) (tys ords : List AV) (Mf : Nat → MapM) (Or : Nat → List Nat) (dg : List Nat),
  ρ[b + 4]? = some (.cells [rowAV 4 f.own.nl (f.own.ds.map Dgm.enc), .mapo (b + 5), .osl (b + 6) 0 f.ds.length 1, .osl (b + 7) 0 f.ds.length 1, rowN dg]) ∧ ρ[b + 5]? = some (mapN N) ∧ (∀ s, lookN N s = findD f.ds s) ∧ ρ[b + 6]? = some (.cells tys) ∧ (∀ i, i < f.ds.length → ∃ q, tys[i]? = some (.mapo q) ∧ ρ[q]? = some (mapA (Mf i))) ∧ ρ[b + 7]? = some (.cells ords) ∧ (∀ i, i < f.ds.length → ords[i]? = some (rowN (Or i)) ∧ (Or i).length ≤ 4000) ∧
  (∀ i d, f.ds[i]? = some d → Or i = (ordD d).getD [] ∧ ∃ o, ordD d = some o) ∧ (∀ i d, f.ds[i]? = some d → ∀ s : Src, look (Mf i) (s.block, s.port) = if f.source d s = true then some (T f d s) else none) ∧ dg = (ordF f).getD [] ∧ dg.length ≤ 2000 := by
 obtain ⟨N, qs, ords, dg, h1, h2, h3, h4, h5, h6, h7, h8, h9⟩ := hF.ex
 rw [own_flen] at h1 h5 h7 h8
 have hlen : (subsL f.own).length = f.ds.length := by rw [subsL_len, own_flen]
 have hord : ordF f = some dg := by
  rw [← own_ordF, ← ordF_eq, own_flen]
  exact h8
 have key : ∀ j : Nat, ∃ (M : MapM) (o : List Nat), ∀ d, f.ds[j]? = some d → (∃ q, qs[j]? = some q ∧ ρ[q]? = some (mapA M)) ∧ ords[j]? = some (rowN o) ∧ ordD d = some o ∧ ∀ s : Src, look M (s.block, s.port) = if f.source d s = true then some (T f d s) else none := by
  intro j
  cases hd : f.ds[j]? with
  | none => exact ⟨[], [], fun d h => by cases h⟩
  | some d =>
   have hd' : f.own.ds[j]? = some d.own := by
    show (f.ds.map Dgm.own)[j]? = _
    rw [List.getElem?_map, hd]
    rfl
   obtain ⟨q, hq⟩ : ∃ q, qs[j]? = some q := ⟨_, List.getElem?_eq_getElem (by rw [h5]; exact (List.getElem?_eq_some_iff.1 hd).1)⟩
   obtain ⟨M, o, g1, g2, g3, g4, g5⟩ := h9 j q d.own hq hd'
   have ho : ordD d.own = some o := by rw [← ordD_eq]; exact g3
   have hg := good_of (f := f.own) (by rw [own_right]; exact hr) (List.mem_of_getElem? hd')
   refine ⟨M, o, fun d' h => ?_⟩
   cases h
   refine ⟨⟨q, hq, g1⟩, g2, by rw [← own_ordD]; exact ho, fun s => ?_⟩
   rw [(typed_eq hg ho).2 g5 M g4 s, own_source, own_T]
 obtain ⟨Mf, hMf⟩ := Classical.axiomOfChoice key
 obtain ⟨Or, hOr⟩ := Classical.axiomOfChoice hMf
 refine ⟨N, qs.map AV.mapo, ords, Mf, Or, dg, h1, h2, fun s => by rw [h3, own_findD], h4, fun i hi => ?_, h6, fun i hi => ?_, fun i d hd => ?_, fun i d hd => (hOr i d hd).2.2.2, by rw [hord]; rfl, ?_⟩
 ·obtain ⟨⟨q, hq, hm⟩, _⟩ := hOr i f.ds[i] (List.getElem?_eq_getElem hi)
  exact ⟨q, by rw [List.getElem?_map, hq]; rfl, hm⟩
 ·obtain ⟨_, h, ho, _⟩ := hOr i f.ds[i] (List.getElem?_eq_getElem hi)
  refine ⟨h, ?_⟩
  have := (ord_ok ho).1
  have := (hs.2 f.ds[i] (List.getElem_mem hi)).2.2.1
  omega
 ·obtain ⟨_, _, ho, _⟩ := hOr i d hd
  exact ⟨by rw [ho]; rfl, _, ho⟩
 ·have := (ord_ok hord).1
  have := hs.1
  omega
theorem beq_dec (E : Int) : (E == 0) = decide (E = 0) := by
 rw [Bool.eq_iff_iff]
 simp
theorem nb4 (a b : Bool) : aBin prog .neq 4 (.val (.bool a)) (.val (.bool b)) = some (.val (.bool (a != b))) := by
 cases a <;> cases b <;> kernel_rfl
theorem mx0 (a : Int) : aMax (.val (.int .i64 0)) (i64 a) = some (i64 (max 0 a)) := by
 unfold aMax i64
 simp only [Option.some.injEq, AV.val.injEq, Value.int.injEq, true_and]
 split <;> omega
theorem c0 : ((0 : Nat) : Int) = 0 := rfl
theorem max0 {W : Int} {o : Option Int} (h : o = if 0 ≤ W then some W else none) : (o.isSome != decide (W ≥ 0)) = false ∧ (o.getD 0 != max 0 W) = false := by
 subst h
 by_cases h : 0 ≤ W
 ·simp [h]
  omega
 ·simp [h]
  omega
theorem numA_max (o : Option Nat) : (o.isSome != decide (numA o ≥ 0)) = false ∧ ((((o.getD 0 : Nat) : Int)) != max 0 (numA o)) = false := by
 cases o with
 | none => exact ⟨rfl, rfl⟩
 | some j =>
  simp [numA]
end Fl
end Go.Proofs.Tryd
