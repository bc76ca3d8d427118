import Derived.Test.YtnjehllmlheagaaDoorPkRgD
/-! Flow: function 6. -/
namespace Go.Proofs.Tryd
set_option linter.unusedSimpArgs false
set_option linter.unusedVariables false
open Go Go.Proofs.Ev
namespace Fl
variable {Γ : List (Nat × List AV)} {w : AV} {G : List (Nat × List AV)}
set_option maxRecDepth 100000 in
theorem name_calls (i : Nat) : APure prog Γ 6 [i64 ((i : Nat) : Int)] (.val (.string (nmB i))) := by
  refine APure.of func6 rfl fun σ => ?_
  simp only [ntmps6, List.length_cons, List.length_nil, Nat.reduceAdd, Nat.reduceSub, List.replicate_succ, List.replicate_zero, List.cons_append, List.nil_append]
  refine AW.regl false [2] (by rfl) fun K1 hK1 => ?_ -- region 0
  simp only [go_sem, Nat.reduceAdd, Nat.reduceEqDiff, Nat.reduceLeDiff, true_and, rem2, addD, cvD, cvB, row82B]
  refine hK1 _ _ ?_; try clear hK1 K1
  conv => enter [5]; simp only [setL_cons, setL_nil, List.set_cons_zero, List.set_cons_succ]
  refine AW.regl false [3] (by rfl) fun K2 hK2 => ?_ -- region 1
  simp only [go_sem, Nat.reduceAdd, Nat.reduceEqDiff, Nat.reduceLeDiff, true_and, rem2, addD, cvD, cvB, row82B]
  refine hK2 _ _ ?_; try clear hK2 K2
  conv => enter [5]; simp only [setL_cons, setL_nil, List.set_cons_zero, List.set_cons_succ]
  refine AW.seq_k fun K3 hK3 => ?_
  refine AW.regl false [4] (by rfl) fun K4 hK4 => ?_ -- region 2
  simp only [go_sem, Nat.reduceAdd, Nat.reduceEqDiff, Nat.reduceLeDiff, true_and, rem2, addD, cvD, cvB, row82B]
  refine hK4 _ _ ?_; try clear hK4 K4
  conv => enter [5]; simp only [setL_cons, setL_nil, List.set_cons_zero, List.set_cons_succ]
  refine AW.block ?_
  refine AW.loop_wk (α := Nat) (fun k => [(.val (.int .i64 ((i : Nat) : Int))), .any, .any, (.val (.string (nmS i k))), (.val (.int .i64 ((k : Nat) : Int))), .any, .any, .any, .any, .any, .any, .any, .any, .any, .any, .any, .any, .any, .any, .any]) (fun k => σ) (fun k => 10 - k) (fun k => k ≤ 10) 0 ?_ ?_
  · exact ⟨Nat.zero_le _, by simp [Wk]; rfl, rfl⟩
  · intro k hk
    refine AW.seq_k fun K5 hK5 => ?_
    refine AW.regl false [6] (by rfl) fun K6 hK6 => ?_ -- region 3
    simp only [go_sem, Nat.reduceAdd, Nat.reduceEqDiff, Nat.reduceLeDiff, true_and, rem2, addD, cvD, cvB, row82B]
    refine hK6 _ _ ?_; try clear hK6 K6
    conv => enter [5]; simp only [setL_cons, setL_nil, List.set_cons_zero, List.set_cons_succ]
    refine AW.cond rfl (fun hc6 => ?_) (fun hc6 => ?_)
    · skip
      have hk1 : k < 10 := by have h := hc6; simp at h; omega
      have hsh := fun T => shrN T i k (by omega)
      have hcat := fun T => catD T i k (by omega)
      refine AW.skip ?_
      refine hK5 _ _ ?_; try clear hK5 K5
      refine AW.seq_k fun K7 hK7 => ?_
      refine AW.block ?_
      refine AW.lastl false [3] (by rfl) fun K hK => ?_ -- region 5
      simp only [go_sem, Nat.reduceAdd, Nat.reduceEqDiff, Nat.reduceLeDiff, true_and, rem2, addD, cvD, cvB, row82B, hsh, hcat]
      refine hK _ _ fun env' hw => ?_
      simp only [setL_cons, setL_nil, List.set_cons_zero, List.set_cons_succ] at hw
      refine hK7 _ _ (AW.weaken hw ?_); clear hw; try clear hK7 K7
      refine AW.lastl false [4] (by rfl) fun K hK => ?_ -- region 4
      simp only [go_sem, Nat.reduceAdd, Nat.reduceEqDiff, Nat.reduceLeDiff, true_and, rem2, addD, cvD, cvB, row82B]
      refine hK _ _ fun env' hw => ?_
      simp only [setL_cons, setL_nil, List.set_cons_zero, List.set_cons_succ] at hw
      refine ⟨k + 1, by omega, by omega, ?_, rfl⟩
      refine hw.trans ?_
      simp [Wk, wrap_succ (show k < 10 by omega) (by decide)]
    · skip
      have hk1 : k = 10 := by
        have h := hc6
        simp at h
        omega
      refine AW.exit ?_
      refine hK3 _ _ ?_; try clear hK3 K3
      refine AW.regl false [2] (by rfl) fun K8 hK8 => ?_ -- region 6
      simp only [go_sem, Nat.reduceAdd, Nat.reduceEqDiff, Nat.reduceLeDiff, true_and, rem2, addD, cvD, cvB, row82B]
      refine hK8 _ _ ?_; try clear hK8 K8
      conv => enter [5]; simp only [setL_cons, setL_nil, List.set_cons_zero, List.set_cons_succ]
      refine AW.ret ⟨.inr rfl, _, rfl, by simp, ?_⟩ -- return 1
      rw [hk1]
      exact .keep rfl
end Fl
end Go.Proofs.Tryd
/-! Flow: rows and files of too much, as they stand in the store. -/
namespace Go.Proofs.Tryd
set_option linter.unusedSimpArgs false
set_option linter.unusedVariables false
open Go Go.Proofs.Ev
namespace Fl
theorem zeros_rep (z : List AV) (hz : 0 < z.length) : ∀ n : Nat, aZeros z (n * z.length) = (List.replicate n (AV.agg z)).flatMap AV.cells
  | 0 => by simp [aZeros]
  | n + 1 => by
    have ih := zeros_rep z hz n
    rw [List.replicate_succ', List.flatMap_append, ← ih]
    unfold aZeros
    rw [Nat.succ_mul, List.range_add, List.map_append, List.map_map]
    congr 1
    show _ = z ++ []
    rw [List.append_nil]
    apply List.ext_getElem
    · simp
    · intro i h1 h2
      simp only [List.getElem_map, List.getElem_range, Function.comp]
      have hi : i < z.length := by simpa using h2
      have hm : (n * z.length + i) % z.length = i := by rw [Nat.mul_comm, Nat.mul_add_mod, Nat.mod_eq_of_lt hi]
      rw [hm]
      rw [List.getD_eq_getElem?_getD, List.getElem?_eq_getElem hi]
      rfl
def src0 : Src := ⟨0, 0⟩
theorem mkBlk {n : Nat} (hn : n ≤ 2000) (σ : Sto) (k k1 : IntKind) : aMakeSlice prog σ 33 (.val (.int k ((n : Nat) : Int))) (.val (.int k1 ((n : Nat) : Int))) = some (.osl σ.length 0 n 7, σ ++ [.cells (((List.replicate n blk0).map Blk.enc).flatMap AV.cells)]) := by
  rw [mk33, if_pos ⟨by omega, by simp [fits]; omega⟩, Int.toNat_natCast]
  have := zeros_rep [.val (.int .i64 0), .val (.int .i64 0), .val (.int .i64 0), .val (.int .i64 0), .val (.int .i32 0), .val (.int .i32 0), .nilsl] (by decide) n
  rw [List.map_replicate]
  exact congrArg (fun cs => some (AV.osl σ.length 0 n 7, σ ++ [AO.cells cs])) this
theorem mkSrc {n : Nat} (hn : n ≤ 2000) (σ : Sto) (k k1 : IntKind) : aMakeSlice prog σ 30 (.val (.int k ((n : Nat) : Int))) (.val (.int k1 ((n : Nat) : Int))) = some (.osl σ.length 0 n 2, σ ++ [.cells (((List.replicate n src0).map Src.enc).flatMap AV.cells)]) := by
  rw [mk30, if_pos ⟨by omega, by simp [fits]; omega⟩, Int.toNat_natCast]
  have := zeros_rep [.val (.int .i64 0), .val (.int .i64 0)] (by decide) n
  rw [List.map_replicate]
  exact congrArg (fun cs => some (AV.osl σ.length 0 n 2, σ ++ [AO.cells cs])) this
theorem mx1 (a : Nat) : aMax (.val (.int .i64 1)) (i64 ((a : Nat) : Int)) = some (i64 ((max 1 a : Nat) : Int)) := by
  simp only [i64, aMax, if_true]
  congr 3
  omega
theorem ap_port {m : Nat} (hm : m ≤ 2000) (nl : Bool) (σ : Sto) (k : Nat) : appAt σ nl 2 24 ((insN m).map PortM.enc) k [.agg [str (nmB m), i64 0]] (some (.cap m 2)) = some (.slo nl 2 ((insN (m + 1)).map PortM.enc) k, σ.set k (.cap (m + 1) 2)) := by
  have h := ap_en (en := PortM.enc) (l := insN m) (by rw [ins_len]; omega) nl (sz := 2) (b := 24) (by decide) ⟨nmB m, 0⟩ σ k
  rw [ins_len] at h
  have e : insN (m + 1) = insN m ++ [⟨nmB m, 0⟩] := by simp [insN, List.range_succ]
  rw [e]
  exact h
/-- A diagram whose blocks' row is full. -/
def dgF (i : Nat) : AV := .agg [str (nm2 i), .nilsl, .sl 4 [outB.enc], .slf 7 [blk0.enc]]
theorem ap_dg {m : Nat} (hm : m ≤ 2000) (h0 : ¬ m = 0) (σ : Sto) (k : Nat) : appAt σ false 4 88 ((List.range m).map dgF) k [.agg [str (nmB m), .nilsl, .sl 4 [outB.enc], .slf 7 [blk0.enc]]] (some (.cap m 4)) = some (.slo false 4 ((List.range (m + 1)).map dgF) k, σ.set k (.cap (m + 1) 4)) := by
  have h := ap_en (en := dgF) (l := List.range m) (by simp; omega) false (sz := 4) (b := 88) (by decide) m σ k
  rw [List.length_range, ← List.range_succ] at h
  have e : dgF m = .agg [str (nmB m), .nilsl, .sl 4 [outB.enc], .slf 7 [blk0.enc]] := by rw [dgF, nm2, if_neg h0]
  rw [e] at h
  exact h
theorem cells1 (v : AV) : [v].flatMap AV.cells = v.cells := by simp
theorem enc0 (M : Nat) : (FileM.enc ⟨false, ds0 M⟩).cells = [.sl 4 [.agg [str fN, .nilsl, .sl 4 [outB.enc], .sl 7 ((List.replicate M blk0).map Blk.enc)]]] := by
  show [rowAV 4 false [Dgm.enc (dg fN [] (List.replicate M blk0))]] = _
  rw [row_false]
  show [AV.sl 4 [.agg [str fN, .nilsl, rowAV 4 false ([outB].map OutM.enc), rowAV 7 false ((List.replicate M blk0).map Blk.enc)]]] = _
  rw [row_false, row_false]
  rfl
theorem enc1 (m : Nat) : WL [.sl 4 [.agg [str fN, rowAV 2 true ((insN m).map PortM.enc), .sl 4 [outB.enc], .slf 7 [blk0.enc]]]] (FileM.enc ⟨false, ds1 m⟩).cells := by
  show WL _ [rowAV 4 false [Dgm.enc (dg fN (insN m) [blk0])]]
  rw [row_false]
  show WL _ [AV.sl 4 [.agg [str fN, rowAV 2 true ((insN m).map PortM.enc), .sl 4 [outB.enc], .sl 7 [blk0.enc]]]]
  exact ⟨W_sl ⟨⟨W_refl _, W_refl _, W_refl _, W_full _ _, trivial⟩, trivial⟩, trivial⟩
theorem enc2 (m : Nat) : WL [.sl 4 ((List.range m).map dgF)] (FileM.enc ⟨false, ds2 m⟩).cells := by
  show WL _ [rowAV 4 false ((ds2 m).map Dgm.enc)]
  rw [row_false, ds2, List.map_map]
  refine ⟨W_sl (WR_map (fun i => ?_) _), trivial⟩
  show WL [str (nm2 i), .nilsl, .sl 4 [outB.enc], .slf 7 [blk0.enc]] [str (nm2 i), .nilsl, .sl 4 [outB.enc], .sl 7 [blk0.enc]]
  exact ⟨W_refl _, W_refl _, W_refl _, W_full _ _, trivial⟩
theorem subB_enc (m : Nat) : (subB m).enc = .agg [i64 7, i64 0, i64 1, i64 0, .val (.int .i32 0), .val (.int .i32 0), .sl 2 ((List.replicate m src0).map Src.enc)] := by
  show AV.agg [i64 7, i64 0, i64 1, i64 0, .val (.int .i32 0), .val (.int .i32 0), rowAV 2 false ((List.replicate m src0).map Src.enc)] = _
  rw [row_false]
theorem enc3 (m k : Nat) : WL [.sl 4 [.agg [str fN, .nilsl, .sl 4 [outB.enc], .sl 7 [blk0.enc, (subB m).enc]], .agg [str gN, rowAV 2 true ((insN k).map PortM.enc), .sl 4 [outB.enc], .slf 7 [blk0.enc]]]] (FileM.enc ⟨false, ds3 m k⟩).cells := by
  show WL _ [AV.sl 4 [.agg [str fN, .nilsl, .sl 4 [outB.enc], .sl 7 [blk0.enc, (subB m).enc]], .agg [str gN, rowAV 2 true ((insN k).map PortM.enc), .sl 4 [outB.enc], .sl 7 [blk0.enc]]]]
  exact ⟨W_sl ⟨WL_refl _, ⟨W_refl _, W_refl _, W_refl _, W_full _ _, trivial⟩, trivial⟩, trivial⟩
end Fl
end Go.Proofs.Tryd
/-! Flow: more that the walk through a file of too much needs. -/
namespace Go.Proofs.Tryd
set_option linter.unusedSimpArgs false
set_option linter.unusedVariables false
open Go Go.Proofs.Ev
namespace Fl
variable {w : AV} {G : List (Nat × List AV)}
theorem slf_cells (sz : Nat) (es : List AV) : (AV.slf sz es).cells = [.slf sz es] := rfl
theorem slf_one (sz : Nat) (es : List AV) : AV.one (.slf sz es) = true := rfl
theorem at0 (o : Nat) (k : IntKind) : aAt 4 (.osl o 0 1 4) (.val (.int k 0)) = some (.ref o 0) := by simp [aAt]
theorem still_str (s : ByteArray) : AV.still (str s) = str s := rfl
theorem still_sl (sz : Nat) (es : List AV) : AV.still (.sl sz es) = .sl sz es := rfl
theorem still_slf (sz : Nat) (es : List AV) : AV.still (.slf sz es) = .slf sz es := rfl
theorem still_nil : AV.still .nilsl = .nilsl := rfl
theorem still_osl (o off len sz : Nat) : AV.still (.osl o off len sz) = .osl o off len sz := rfl
theorem sub_bel {v : AV} (h : v.bel 0 = true) (o len sz : Nat) (es : List AV) : v.sub o len sz es = v := by
  have := subL_bel0 o len sz es [v] (by simp [belL, h])
  simpa [subL] using this
theorem sub_out (o len sz : Nat) (es : List AV) : outB.enc.sub o len sz es = outB.enc := sub_bel rfl _ _ _ _
theorem sub_blk (o len sz : Nat) (es : List AV) : blk0.enc.sub o len sz es = blk0.enc := sub_bel rfl _ _ _ _
theorem sub_ports (o len sz k : Nat) (es : List AV) : subL o len sz es ((insN k).map PortM.enc) = (insN k).map PortM.enc := subL_bel0 _ _ _ _ _ (belL_map _ _ fun _ _ => rfl)
theorem sub_prow (o len sz k : Nat) (es : List AV) : AV.sub o len sz es (rowAV 2 true ((insN k).map PortM.enc)) = rowAV 2 true ((insN k).map PortM.enc) := sub_bel (row_bel (fun _ _ => rfl) _ _ _ _) _ _ _ _
theorem dgs_bel (n : Nat) (l : List Nat) : belL n (l.map dgF) = true := belL_map _ _ fun _ _ => rfl
theorem sub_dgs (o len sz k : Nat) (es : List AV) : subL o len sz es ((List.range k).map dgF) = (List.range k).map dgF := subL_bel0 _ _ _ _ _ (dgs_bel _ _)
theorem sub_reps (o len sz k : Nat) (es : List AV) : subL o len sz es ((List.replicate k blk0).map Blk.enc) = (List.replicate k blk0).map Blk.enc := subL_bel0 _ _ _ _ _ (belL_map _ _ fun _ h => by rw [(List.mem_replicate.1 h).2]; rfl)
theorem sub_srcs (o len sz k : Nat) (es : List AV) : subL o len sz es ((List.replicate k src0).map Src.enc) = (List.replicate k src0).map Src.enc := subL_bel0 _ _ _ _ _ (belL_map _ _ fun _ _ => rfl)
theorem apF (σ : Sto) (v : AV) : aAppendF prog σ 33 33 7 [blk0.enc] (.sl 7 [v]) = some (.slo false 7 [blk0.enc, v] σ.length, σ ++ [.cap 2 7]) :=
  aAppendF_eq (b := 64) (by kernel_rfl) σ [blk0.enc] (.sl 7 [v]) (ds := [v]) (by rw [src33]; rfl) Nat.one_pos (show fits 2 64 = true by decide)
theorem ap2 (σ : Sto) (k : Nat) (u v : AV) : appAt σ false 4 88 [u] k [v] (some (.cap 1 4)) = some (.slo false 4 [u, v] k, σ.set k (.cap 2 4)) := rfl
theorem eq4 (a b : Bool) : aBin prog .eql 4 (.val (.bool a)) (.val (.bool b)) = some (.val (.bool (a == b))) := by
  cases a <;> cases b <;> kernel_rfl
theorem ok0 (ok : Bool) : ((if ok = true then (0 : Int) else 4) == 0) = ok := by cases ok <;> rfl
theorem bin_nil43' : aBin prog .neq 43 (.val (.pointer none)) (.val (.pointer none)) = some (.val (.bool false)) := by kernel_rfl
theorem lawCheckR (hΓ : A.Words (GK w G)) {ds : List Dgm} {ok : Bool} (h : ShC ds ok) (σ : Sto) : ACalls prog (GK w G) 7 [FileM.enc ⟨false, ds⟩] σ (fun v σ' => ∃ p τ, v = .tup [p, i64 (if ok = true then 0 else 4)] ∧ σ' = σ ++ τ ∧ aBin prog .neq 43 p (.val (.pointer none)) = some (.val (.bool ok))) := by
  refine (check_calls hΓ ⟨false, ds⟩ h.f h.n h.sz (fun hr d hd => good_of hr hd) σ).mono ?_
  rintro v σ' ⟨hp, hv⟩
  obtain ⟨τ, rfl⟩ := pre_app hp
  have hc := h.c
  cases ok with
  | true =>
    rw [if_pos rfl] at hc
    rcases hv with ⟨h1, _⟩ | ⟨_, rfl, _⟩
    · exact absurd hc h1
    · exact ⟨_, τ, rfl, rfl, ptrn43 _ _⟩
  | false =>
    rw [if_neg (by decide)] at hc
    rcases hv with ⟨_, rfl⟩ | ⟨h1, _⟩
    · exact ⟨_, τ, by rw [hc]; rfl, rfl, bin_nil43'⟩
    · rw [hc] at h1; exact absurd h1 (by decide)
end Fl
end Go.Proofs.Tryd
/-! Flow: function 3. -/
namespace Go.Proofs.Tryd
set_option linter.unusedSimpArgs false
set_option linter.unusedVariables false
open Go Go.Proofs.Ev
namespace Fl
variable {Γ : List (Nat × List AV)} {w : AV} {G : List (Nat × List AV)}
set_option maxRecDepth 100000 in
set_option maxHeartbeats 4000000 in
theorem range_calls (hΓ : A.Words (GK w G)) (n wh : Nat) (hn : n ≤ 65535) : APure prog (GK w G) 3 [.val (.int .u16 ((n : Nat) : Int)), .val (.int .u8 ((wh : Nat) : Int))] (.val (.bool true)) := by
  refine APure.of func3 rfl fun σ => ?_
  simp only [ntmps3, List.length_cons, List.length_nil, Nat.reduceAdd, Nat.reduceSub, List.replicate_succ, List.replicate_zero, List.cons_append, List.nil_append]
  obtain ⟨m, hm⟩ : ∃ z, z = n % 1006 := ⟨_, rfl⟩
  obtain ⟨q, hq⟩ : ∃ z, z = wh % 4 := ⟨_, rfl⟩
  obtain ⟨M, hM⟩ : ∃ z, z = max 1 m := ⟨_, rfl⟩
  obtain ⟨K0, hK0m⟩ : ∃ z, z = min m 1000 := ⟨_, rfl⟩
  have hm5 : m ≤ 1005 := by omega
  have hq4 : q < 4 := by omega
  have hml : m ≤ maxLen := by rw [maxLen_eq]; omega
  have hw64 := wrapI (show -1000000 ≤ ((n : Nat) : Int) by omega) (show ((n : Nat) : Int) ≤ 1000000 by omega)
  have hmx := mx1 m
  rw [← hM] at hmx
  refine AW.regl false [4] (by rfl) fun K1 hK1 => ?_ -- region 0
  simp only [go_sem, Nat.reduceAdd, Nat.reduceEqDiff, Nat.reduceLeDiff, true_and, rem1006, rem4, slf_cells, slf_one]
  refine hK1 _ _ ?_; try clear hK1 K1
  conv => enter [5]; simp only [setL_cons, setL_nil, List.set_cons_zero, List.set_cons_succ]
  refine AW.regl false [5] (by rfl) fun K2 hK2 => ?_ -- region 1
  simp only [go_sem, Nat.reduceAdd, Nat.reduceEqDiff, Nat.reduceLeDiff, true_and, rem1006, rem4, slf_cells, slf_one, hw64, ← hm]
  refine hK2 _ _ ?_; try clear hK2 K2
  conv => enter [5]; simp only [setL_cons, setL_nil, List.set_cons_zero, List.set_cons_succ]
  refine AW.fullrow [22, 23] [6] 4 rfl rfl rfl rfl (by rfl) fun K3 hK3 => ?_ -- region 2
  simp only [go_sem, Nat.reduceAdd, Nat.reduceEqDiff, Nat.reduceLeDiff, true_and, List.take_succ_cons, List.take_zero, row1_29]
  refine hK3 _ _ (.sl 7 [blk0.enc]) ?_ (by rfl) fun K0 hK0 => ?_
  · exact row33 (len := 1) (parts := [(0, blk0.enc)]) (by decide) (by decide) rfl (fun p hp => by simp only [List.mem_singleton] at hp; subst hp; exact ⟨rfl, rfl⟩)
  simp only [go_sem, Nat.reduceAdd, Nat.reduceEqDiff, Nat.reduceLeDiff, true_and, List.drop_succ_cons, List.drop_zero, setL_cons, setL_nil, List.set_cons_zero, List.set_cons_succ, AV.full, slf_cells, slf_one]
  refine hK0 _ _ ?_; clear hK0 K0 hK3 K3
  conv => enter [5]; simp only [setL_cons, setL_nil, List.set_cons_zero, List.set_cons_succ]
  show AW _ _ _ _ _ (σ ++ [.cells [str fN, .nilsl, .sl 4 [outB.enc], .slf 7 [blk0.enc]]]) _
  refine AW.regl true [7] (by rfl) fun K4 hK4 => ?_ -- region 3
  simp only [go_sem, Nat.reduceAdd, Nat.reduceEqDiff, Nat.reduceLeDiff, true_and, rem1006, rem4, slf_cells, slf_one, rowm37]
  refine hK4 _ _ ?_; try clear hK4 K4
  conv => enter [5]; simp only [setL_cons, setL_nil, List.set_cons_zero, List.set_cons_succ, upd_none, upd_at]
  refine AW.regl false [8] (by rfl) fun K5 hK5 => ?_ -- region 4
  simp only [go_sem, Nat.reduceAdd, Nat.reduceEqDiff, Nat.reduceLeDiff, true_and, rem1006, rem4, slf_cells, slf_one, at0]
  refine hK5 _ _ ?_; try clear hK5 K5
  conv => enter [5]; simp only [setL_cons, setL_nil, List.set_cons_zero, List.set_cons_succ]
  refine AW.regl false [9] (by rfl) fun K6 hK6 => ?_ -- region 5
  simp only [go_sem, Nat.reduceAdd, Nat.reduceEqDiff, Nat.reduceLeDiff, true_and, rem1006, rem4, slf_cells, slf_one]
  refine hK6 _ _ ?_; try clear hK6 K6
  conv => enter [5]; simp only [setL_cons, setL_nil, List.set_cons_zero, List.set_cons_succ]
  refine AW.mid (α := List Dgm × Bool × Sto) (fun z => [.any, .any, .any, .any, .any, .any, .any, (.ref (σ.length + 2) 0), .any, (.val (.int .i64 (if z.2.1 = true then 0 else 4))), .any, .any, .any, .any, .any, .any, .any, .any, .any, .any, .any, .any, .any, .any, .any, .any, .any, .any, .any, .any, .any, .any, .any, .any, .any, .any, .any, .any, .any, .any, .any, .any, .any, .any, .any, .any, .any, .any, .any, .any, .any, .any, .any, .any, .any, .any, .any, .any, .any, .any, .any, .any, .any, .any, .any, .any, .any, .any, .any, .any, .any, .any, .any, .any, .any, .any, .any, .any, .any, .any, .any, .any, .any, .any, .any, .any, .any, .any, .any, .any, .any, .any, .any, .any, .any, .any, .any, .any, .any, .any, .any, .any, .any, .any, .any, .any, .any, .any, .any, .any, .any, .any, .any, .any, .any, .any, .any, .any, .any, .any, .any, .any, .any, .any, .any, .any, .any, .any, .any, .any, .any, .any, .any, .any, .any, .any, .any, .any, .any, .any, .any, .any, .any, .any, .any, .any, .any]) (fun z => σ ++ z.2.2) (fun z => ShC z.1 z.2.1 ∧ z.2.2[2]? = some (.cells (FileM.enc ⟨false, z.1⟩).cells)) ?_ ?_
  · skip
    refine AW.regl false [33] (by rfl) fun K8 hK8 => ?_ -- region 6
    simp only [go_sem, Nat.reduceAdd, Nat.reduceEqDiff, Nat.reduceLeDiff, true_and, rem1006, rem4, slf_cells, slf_one, ← hq]
    refine hK8 _ _ ?_; try clear hK8 K8
    conv => enter [5]; simp only [setL_cons, setL_nil, List.set_cons_zero, List.set_cons_succ]
    refine AW.block ?_
    refine AW.regl false [34] (by rfl) fun K9 hK9 => ?_ -- region 7
    simp only [go_sem, Nat.reduceAdd, Nat.reduceEqDiff, Nat.reduceLeDiff, true_and, rem1006, rem4, slf_cells, slf_one]
    refine hK9 _ _ ?_; try clear hK9 K9
    conv => enter [5]; simp only [setL_cons, setL_nil, List.set_cons_zero, List.set_cons_succ]
    refine AW.cond rfl (fun hc34 => ?_) (fun hc34 => ?_)
    · skip
      have q0 : q = 0 := by simpa using hc34
      refine AW.regl false [] (by rfl) fun K10 hK10 => ?_ -- region 8
      simp only [go_sem, Nat.reduceAdd, Nat.reduceEqDiff, Nat.reduceLeDiff, true_and, rem1006, rem4, slf_cells, slf_one, hmx, mkBlk (show M ≤ 2000 by omega)]
      refine hK10 _ _ ?_; try clear hK10 K10
      conv => enter [5]; simp only [setL_cons, setL_nil, List.set_cons_zero, List.set_cons_succ, upd_none, upd_at]
      refine AW.regl false [47] (by rfl) fun K11 hK11 => ?_ -- region 9
      simp only [go_sem, Nat.reduceAdd, Nat.reduceEqDiff, Nat.reduceLeDiff, true_and, rem1006, rem4, slf_cells, slf_one]
      refine hK11 _ _ ?_; try clear hK11 K11
      conv => enter [5]; simp only [setL_cons, setL_nil, List.set_cons_zero, List.set_cons_succ]
      refine AW.cond rfl (fun hc47 => ?_) (fun hc47 => ?_)
      · skip
        have hb : M > 999 := by have h := hc47; simp at h; omega
        have hsh := sh0 (m := M) (by omega) (by omega)
        rw [decide_eq_false (by omega)] at hsh
        refine AW.freeze σ.length (σ.length + 3) M 7 ((List.replicate M blk0).map Blk.enc) ((app_get σ _ 3).trans rfl) rfl (by simp) (fun e he => by obtain ⟨b, _, rfl⟩ := List.mem_map.1 he; rfl) ?_
        rw [app_set, subFrom_app]
        conv => enter [5]; simp only [subL, AV.sub, sub_out, sub_blk, sub_prow, sub_ports, sub_dgs, sub_reps, sub_srcs, Nat.add_left_cancel_iff, Nat.reduceEqDiff, Nat.add_eq_left, Nat.succ_ne_self, Nat.succ_ne_zero, reduceCtorEq, Nat.one_ne_zero, Nat.zero_ne_one, false_and, and_false, if_false, and_self, true_and, and_true, if_true]
        conv => enter [6]; simp only [List.map_cons, List.map_nil, List.set_cons_succ, List.set_cons_zero, AO.sub, subL, AV.sub, sub_out, sub_blk, sub_prow, sub_ports, sub_dgs, sub_reps, sub_srcs, Nat.add_left_cancel_iff, Nat.reduceEqDiff, Nat.add_eq_left, Nat.succ_ne_self, Nat.succ_ne_zero, reduceCtorEq, Nat.one_ne_zero, Nat.zero_ne_one, false_and, and_false, if_false, and_self, true_and, and_true, if_true]
        refine AW.freeze σ.length (σ.length + 1) 1 4 [.agg [str fN, .nilsl, .sl 4 [outB.enc], .sl 7 ((List.replicate M blk0).map Blk.enc)]] ((app_get σ _ 1).trans rfl) (cells1 _) rfl (fun e he => by rw [List.mem_singleton.1 he]; rfl) ?_
        rw [app_set, subFrom_app]
        conv => enter [5]; simp only [subL, AV.sub, sub_out, sub_blk, sub_prow, sub_ports, sub_dgs, sub_reps, sub_srcs, Nat.add_left_cancel_iff, Nat.reduceEqDiff, Nat.add_eq_left, Nat.succ_ne_self, Nat.succ_ne_zero, reduceCtorEq, Nat.one_ne_zero, Nat.zero_ne_one, false_and, and_false, if_false, and_self, true_and, and_true, if_true]
        conv => enter [6]; simp only [List.map_cons, List.map_nil, List.set_cons_succ, List.set_cons_zero, AO.sub, subL, AV.sub, sub_out, sub_blk, sub_prow, sub_ports, sub_dgs, sub_reps, sub_srcs, Nat.add_left_cancel_iff, Nat.reduceEqDiff, Nat.add_eq_left, Nat.succ_ne_self, Nat.succ_ne_zero, reduceCtorEq, Nat.one_ne_zero, Nat.zero_ne_one, false_and, and_false, if_false, and_self, true_and, and_true, if_true]
        refine AW.tellW (σ.length + 2) (FileM.enc ⟨false, ds0 M⟩).cells ((app_get σ _ 2).trans rfl) (by rw [enc0]; exact WL_refl _) ?_
        rw [app_set]
        conv => enter [6]; simp only [List.map_cons, List.map_nil, List.set_cons_succ, List.set_cons_zero]
        refine AW.lastl false [9] (by rfl) fun K hK => ?_ -- region 10
        simp only [go_sem, Nat.reduceAdd, Nat.reduceEqDiff, Nat.reduceLeDiff, true_and, rem1006, rem4, slf_cells, slf_one]
        refine hK _ _ fun env' hw => ?_
        simp only [setL_cons, setL_nil, List.set_cons_zero, List.set_cons_succ] at hw
        refine ⟨(ds0 M, false, _), ⟨hsh, ?_⟩, (hw.trans (by simp [Wk])), rfl⟩
        rfl
      · skip
        have hb : ¬ M > 999 := by have h := hc47; simp at h; omega
        have hsh := sh0 (m := M) (by omega) (by omega)
        rw [decide_eq_true (by omega)] at hsh
        refine AW.freeze σ.length (σ.length + 3) M 7 ((List.replicate M blk0).map Blk.enc) ((app_get σ _ 3).trans rfl) rfl (by simp) (fun e he => by obtain ⟨b, _, rfl⟩ := List.mem_map.1 he; rfl) ?_
        rw [app_set, subFrom_app]
        conv => enter [5]; simp only [subL, AV.sub, sub_out, sub_blk, sub_prow, sub_ports, sub_dgs, sub_reps, sub_srcs, Nat.add_left_cancel_iff, Nat.reduceEqDiff, Nat.add_eq_left, Nat.succ_ne_self, Nat.succ_ne_zero, reduceCtorEq, Nat.one_ne_zero, Nat.zero_ne_one, false_and, and_false, if_false, and_self, true_and, and_true, if_true]
        conv => enter [6]; simp only [List.map_cons, List.map_nil, List.set_cons_succ, List.set_cons_zero, AO.sub, subL, AV.sub, sub_out, sub_blk, sub_prow, sub_ports, sub_dgs, sub_reps, sub_srcs, Nat.add_left_cancel_iff, Nat.reduceEqDiff, Nat.add_eq_left, Nat.succ_ne_self, Nat.succ_ne_zero, reduceCtorEq, Nat.one_ne_zero, Nat.zero_ne_one, false_and, and_false, if_false, and_self, true_and, and_true, if_true]
        refine AW.freeze σ.length (σ.length + 1) 1 4 [.agg [str fN, .nilsl, .sl 4 [outB.enc], .sl 7 ((List.replicate M blk0).map Blk.enc)]] ((app_get σ _ 1).trans rfl) (cells1 _) rfl (fun e he => by rw [List.mem_singleton.1 he]; rfl) ?_
        rw [app_set, subFrom_app]
        conv => enter [5]; simp only [subL, AV.sub, sub_out, sub_blk, sub_prow, sub_ports, sub_dgs, sub_reps, sub_srcs, Nat.add_left_cancel_iff, Nat.reduceEqDiff, Nat.add_eq_left, Nat.succ_ne_self, Nat.succ_ne_zero, reduceCtorEq, Nat.one_ne_zero, Nat.zero_ne_one, false_and, and_false, if_false, and_self, true_and, and_true, if_true]
        conv => enter [6]; simp only [List.map_cons, List.map_nil, List.set_cons_succ, List.set_cons_zero, AO.sub, subL, AV.sub, sub_out, sub_blk, sub_prow, sub_ports, sub_dgs, sub_reps, sub_srcs, Nat.add_left_cancel_iff, Nat.reduceEqDiff, Nat.add_eq_left, Nat.succ_ne_self, Nat.succ_ne_zero, reduceCtorEq, Nat.one_ne_zero, Nat.zero_ne_one, false_and, and_false, if_false, and_self, true_and, and_true, if_true]
        refine AW.tellW (σ.length + 2) (FileM.enc ⟨false, ds0 M⟩).cells ((app_get σ _ 2).trans rfl) (by rw [enc0]; exact WL_refl _) ?_
        rw [app_set]
        conv => enter [6]; simp only [List.map_cons, List.map_nil, List.set_cons_succ, List.set_cons_zero]
        refine AW.skip ?_
        refine ⟨(ds0 M, true, _), ⟨hsh, ?_⟩, (by simp [Wk]), rfl⟩
        rfl
    · skip
      have q0 : ¬ q = 0 := by simpa using hc34
      refine AW.regl false [48] (by rfl) fun K12 hK12 => ?_ -- region 11
      simp only [go_sem, Nat.reduceAdd, Nat.reduceEqDiff, Nat.reduceLeDiff, true_and, rem1006, rem4, slf_cells, slf_one]
      refine hK12 _ _ ?_; try clear hK12 K12
      conv => enter [5]; simp only [setL_cons, setL_nil, List.set_cons_zero, List.set_cons_succ]
      refine AW.cond rfl (fun hc48 => ?_) (fun hc48 => ?_)
      · skip
        refine AW.seq_k fun K13 hK13 => ?_
        refine AW.cap 2 ?_
        simp only [List.append_assoc, List.cons_append, List.nil_append]
        refine AW.own (σ.length + 1) 1 (σ.length + 3) ((app_get σ _ 1).trans rfl) rfl ((app_get σ _ 3).trans rfl) (by decide) ?_
        simp only [app_set, List.set_cons_zero, List.set_cons_succ]
        refine AW.regl false [10] (by rfl) fun K14 hK14 => ?_ -- region 12
        simp only [go_sem, Nat.reduceAdd, Nat.reduceEqDiff, Nat.reduceLeDiff, true_and, rem1006, rem4, slf_cells, slf_one]
        refine hK14 _ _ ?_; try clear hK14 K14
        conv => enter [5]; simp only [setL_cons, setL_nil, List.set_cons_zero, List.set_cons_succ]
        refine AW.block ?_
        refine AW.loop_wk (α := Nat) (fun i => [.any, .any, .any, .any, .any, (.val (.int .i64 ((m : Nat) : Int))), .any, (.ref (σ.length + 2) 0), (.ref (σ.length + 1) 0), (.val (.int .i64 0)), (.val (.int .i64 ((i : Nat) : Int))), .any, .any, .any, .any, .any, .any, .any, .any, .any, .any, .any, .any, .any, .any, .any, .any, .any, .any, .any, .any, .any, .any, .any, .any, .any, .any, .any, .any, .any, .any, .any, .any, .any, .any, .any, .any, .any, .any, .any, .any, .any, .any, .any, .any, .any, .any, .any, .any, .any, .any, .any, .any, .any, .any, .any, .any, .any, .any, .any, .any, .any, .any, .any, .any, .any, .any, .any, .any, .any, .any, .any, .any, .any, .any, .any, .any, .any, .any, .any, .any, .any, .any, .any, .any, .any, .any, .any, .any, .any, .any, .any, .any, .any, .any, .any, .any, .any, .any, .any, .any, .any, .any, .any, .any, .any, .any, .any, .any, .any, .any, .any, .any, .any, .any, .any, .any, .any, .any, .any, .any, .any, .any, .any, .any, .any, .any, .any, .any, .any, .any, .any, .any, .any, .any, .any, .any]) (fun i => σ ++ [.cells [.val (.string fN), .nilsl, .sl 4 [outB.enc], .slf 7 [blk0.enc]], .cells [str fN, .slo true 2 ((insN i).map PortM.enc) (σ.length + 3), .sl 4 [outB.enc], .slf 7 [blk0.enc]], .cells [.osl (σ.length + 1) 0 1 4], .cap i 2]) (fun i => m - i) (fun i => i ≤ m) 0 ?_ ?_
        · exact ⟨Nat.zero_le _, by simp [Wk], rfl⟩
        · intro i hi
          refine AW.seq_k fun K15 hK15 => ?_
          refine AW.regl false [52] (by rfl) fun K16 hK16 => ?_ -- region 13
          simp only [go_sem, Nat.reduceAdd, Nat.reduceEqDiff, Nat.reduceLeDiff, true_and, rem1006, rem4, slf_cells, slf_one]
          refine hK16 _ _ ?_; try clear hK16 K16
          conv => enter [5]; simp only [setL_cons, setL_nil, List.set_cons_zero, List.set_cons_succ]
          refine AW.cond rfl (fun hc52 => ?_) (fun hc52 => ?_)
          · skip
            have hi1 : i < m := by simpa using hc52
            have hap := fun σ k => ap_port (m := i) (by omega) true σ k
            refine AW.skip ?_
            refine hK15 _ _ ?_; try clear hK15 K15
            refine AW.seq_k fun K17 hK17 => ?_
            refine AW.block ?_
            refine AW.lastch mixed [σ ++ [.cells [.val (.string fN), .nilsl, .sl 4 [outB.enc], .slf 7 [blk0.enc]], .cells [str fN, .slo true 2 ((insN i).map PortM.enc) (σ.length + 3), .sl 4 [outB.enc], .slf 7 [blk0.enc]], .cells [.osl (σ.length + 1) 0 1 4], .cap i 2], σ ++ [.cells [str fN, .nilsl, .sl 4 [outB.enc], .slf 7 [blk0.enc]], .cells [str fN, .slo true 2 ((insN i).map PortM.enc) (σ.length + 3), .sl 4 [outB.enc], .slf 7 [blk0.enc]], .cells [.osl (σ.length + 1) 0 1 4], .cap (i + 1) 2], σ ++ [.cells [str fN, .nilsl, .sl 4 [outB.enc], .slf 7 [blk0.enc]], .cells [str fN, .slo true 2 ((insN (i + 1)).map PortM.enc) (σ.length + 3), .sl 4 [outB.enc], .slf 7 [blk0.enc]], .cells [.osl (σ.length + 1) 0 1 4], .cap (i + 1) 2]] [(0, 1, true), (0, 0, true), (0, 0, true), (0, 0, true), (0, 0, true), (0, 0, true), (0, 0, true), (0, 0, true), (0, 0, true), (0, 0, false), (1, 1, true), (1, 1, true), (0, 0, false)] [] (by kernel_rfl) (by rfl) (by kernel_rfl) (by rfl) fun K hK => ?_ -- region 15
            simp only [go_sem, Nat.reduceAdd, Nat.reduceEqDiff, Nat.reduceLeDiff, true_and, rem1006, rem4, slf_cells, slf_one, row1_34, hap, List.append_assoc, List.cons_append, List.nil_append]
            refine xQ.of en6 (fun s _ => ((name_calls i)) s) (by rfl) ?_
            simp only [go_sem, Nat.reduceAdd, Nat.reduceEqDiff, Nat.reduceLeDiff, true_and, rem1006, rem4, slf_cells, slf_one, row1_34, hap, List.append_assoc, List.cons_append, List.nil_append]
            refine xE.of (by first | rfl | (simp; done) | (simp; repeat' constructor)) ?_
            simp only [go_sem, Nat.reduceAdd, Nat.reduceEqDiff, Nat.reduceLeDiff, true_and, rem1006, rem4, slf_cells, slf_one, row1_34, hap, List.append_assoc, List.cons_append, List.nil_append]
            refine xE.of (by first | rfl | (simp; done) | (simp; repeat' constructor)) ?_
            simp only [go_sem, Nat.reduceAdd, Nat.reduceEqDiff, Nat.reduceLeDiff, true_and, rem1006, rem4, slf_cells, slf_one, row1_34, hap, List.append_assoc, List.cons_append, List.nil_append]
            refine hK _ fun env' hw => ?_
            simp only [setL_cons, setL_nil, List.set_cons_zero, List.set_cons_succ, upd_none, upd_at] at hw
            refine hK17 _ _ (AW.weaken hw ?_); clear hw; try clear hK17 K17
            refine AW.lastl false [10] (by rfl) fun K hK => ?_ -- region 14
            simp only [go_sem, Nat.reduceAdd, Nat.reduceEqDiff, Nat.reduceLeDiff, true_and, rem1006, rem4, slf_cells, slf_one]
            refine hK _ _ fun env' hw => ?_
            simp only [setL_cons, setL_nil, List.set_cons_zero, List.set_cons_succ] at hw
            refine ⟨i + 1, by omega, by omega, ?_, rfl⟩
            refine hw.trans ?_
            simp [Wk, wrap_succ hi1 hml]
            try omega
          · skip
            have hi1 : i = m := by
              have : ¬ i < m := by simpa using hc52
              omega
            refine AW.exit ?_
            refine hK13 _ _ ?_; try clear hK13 K13
            rw [hi1]
            refine AW.regl false [68] (by rfl) fun K18 hK18 => ?_ -- region 16
            simp only [go_sem, Nat.reduceAdd, Nat.reduceEqDiff, Nat.reduceLeDiff, true_and, rem1006, rem4, slf_cells, slf_one]
            refine hK18 _ _ ?_; try clear hK18 K18
            conv => enter [5]; simp only [setL_cons, setL_nil, List.set_cons_zero, List.set_cons_succ]
            refine AW.cond rfl (fun hc68 => ?_) (fun hc68 => ?_)
            · skip
              have hb : m > 1000 := by have h := hc68; simp at h; omega
              have hsh := sh1 (m := m) (by omega)
              rw [decide_eq_false (by omega)] at hsh
              refine AW.still (σ.length + 1) ((app_get σ _ 1).trans rfl) ?_
              rw [app_set]
              conv => enter [6]; simp only [List.map_cons, List.map_nil, List.set_cons_succ, List.set_cons_zero, still_slo, still_f, still_str, still_sl, still_slf, still_nil, still_osl]
              refine AW.freeze σ.length (σ.length + 1) 1 4 [.agg [str fN, rowAV 2 true ((insN m).map PortM.enc), .sl 4 [outB.enc], .slf 7 [blk0.enc]]] ((app_get σ _ 1).trans rfl) (cells1 _) rfl (fun e he => by rw [List.mem_singleton.1 he]; rfl) ?_
              rw [app_set, subFrom_app]
              conv => enter [5]; simp only [subL, AV.sub, sub_out, sub_blk, sub_prow, sub_ports, sub_dgs, sub_reps, sub_srcs, Nat.add_left_cancel_iff, Nat.reduceEqDiff, Nat.add_eq_left, Nat.succ_ne_self, Nat.succ_ne_zero, reduceCtorEq, Nat.one_ne_zero, Nat.zero_ne_one, false_and, and_false, if_false, and_self, true_and, and_true, if_true]
              conv => enter [6]; simp only [List.map_cons, List.map_nil, List.set_cons_succ, List.set_cons_zero, AO.sub, subL, AV.sub, sub_out, sub_blk, sub_prow, sub_ports, sub_dgs, sub_reps, sub_srcs, Nat.add_left_cancel_iff, Nat.reduceEqDiff, Nat.add_eq_left, Nat.succ_ne_self, Nat.succ_ne_zero, reduceCtorEq, Nat.one_ne_zero, Nat.zero_ne_one, false_and, and_false, if_false, and_self, true_and, and_true, if_true]
              refine AW.tellW (σ.length + 2) (FileM.enc ⟨false, ds1 m⟩).cells ((app_get σ _ 2).trans rfl) (enc1 m) ?_
              rw [app_set]
              conv => enter [6]; simp only [List.map_cons, List.map_nil, List.set_cons_succ, List.set_cons_zero]
              refine AW.lastl false [9] (by rfl) fun K hK => ?_ -- region 17
              simp only [go_sem, Nat.reduceAdd, Nat.reduceEqDiff, Nat.reduceLeDiff, true_and, rem1006, rem4, slf_cells, slf_one]
              refine hK _ _ fun env' hw => ?_
              simp only [setL_cons, setL_nil, List.set_cons_zero, List.set_cons_succ] at hw
              refine ⟨(ds1 m, false, _), ⟨hsh, ?_⟩, (hw.trans (by simp [Wk])), rfl⟩
              rfl
            · skip
              have hb : ¬ m > 1000 := by have h := hc68; simp at h; omega
              have hsh := sh1 (m := m) (by omega)
              rw [decide_eq_true (by omega)] at hsh
              refine AW.still (σ.length + 1) ((app_get σ _ 1).trans rfl) ?_
              rw [app_set]
              conv => enter [6]; simp only [List.map_cons, List.map_nil, List.set_cons_succ, List.set_cons_zero, still_slo, still_f, still_str, still_sl, still_slf, still_nil, still_osl]
              refine AW.freeze σ.length (σ.length + 1) 1 4 [.agg [str fN, rowAV 2 true ((insN m).map PortM.enc), .sl 4 [outB.enc], .slf 7 [blk0.enc]]] ((app_get σ _ 1).trans rfl) (cells1 _) rfl (fun e he => by rw [List.mem_singleton.1 he]; rfl) ?_
              rw [app_set, subFrom_app]
              conv => enter [5]; simp only [subL, AV.sub, sub_out, sub_blk, sub_prow, sub_ports, sub_dgs, sub_reps, sub_srcs, Nat.add_left_cancel_iff, Nat.reduceEqDiff, Nat.add_eq_left, Nat.succ_ne_self, Nat.succ_ne_zero, reduceCtorEq, Nat.one_ne_zero, Nat.zero_ne_one, false_and, and_false, if_false, and_self, true_and, and_true, if_true]
              conv => enter [6]; simp only [List.map_cons, List.map_nil, List.set_cons_succ, List.set_cons_zero, AO.sub, subL, AV.sub, sub_out, sub_blk, sub_prow, sub_ports, sub_dgs, sub_reps, sub_srcs, Nat.add_left_cancel_iff, Nat.reduceEqDiff, Nat.add_eq_left, Nat.succ_ne_self, Nat.succ_ne_zero, reduceCtorEq, Nat.one_ne_zero, Nat.zero_ne_one, false_and, and_false, if_false, and_self, true_and, and_true, if_true]
              refine AW.tellW (σ.length + 2) (FileM.enc ⟨false, ds1 m⟩).cells ((app_get σ _ 2).trans rfl) (enc1 m) ?_
              rw [app_set]
              conv => enter [6]; simp only [List.map_cons, List.map_nil, List.set_cons_succ, List.set_cons_zero]
              refine AW.skip ?_
              refine ⟨(ds1 m, true, _), ⟨hsh, ?_⟩, (by simp [Wk]), rfl⟩
              rfl
      · skip
        have q1 : ¬ q = 1 := fun h => by rw [h] at hc48; simp at hc48
        refine AW.regl false [69] (by rfl) fun K19 hK19 => ?_ -- region 18
        simp only [go_sem, Nat.reduceAdd, Nat.reduceEqDiff, Nat.reduceLeDiff, true_and, rem1006, rem4, slf_cells, slf_one]
        refine hK19 _ _ ?_; try clear hK19 K19
        conv => enter [5]; simp only [setL_cons, setL_nil, List.set_cons_zero, List.set_cons_succ]
        refine AW.cond rfl (fun hc69 => ?_) (fun hc69 => ?_)
        · skip
          refine AW.seq_k fun K20 hK20 => ?_
          refine AW.hold (σ.length + 1) (σ.length + 2) 0 ((List.range 1).map dgF) ((app_get σ _ 2).trans rfl) ((app_get σ _ 1).trans rfl) rfl rfl rfl (by decide) (fun e he => by simp only [List.range_one, List.map_cons, List.map_nil, List.mem_singleton] at he; rw [he]; rfl) (by decide) (by omega) ?_
          rw [app_set, app_set]
          simp only [List.map_cons, List.map_nil, List.set_cons_succ, List.set_cons_zero, List.length_append, List.length_cons, List.length_nil, Nat.reduceAdd, List.append_assoc, List.cons_append, List.nil_append]
          refine AW.regl false [11] (by rfl) fun K21 hK21 => ?_ -- region 19
          simp only [go_sem, Nat.reduceAdd, Nat.reduceEqDiff, Nat.reduceLeDiff, true_and, rem1006, rem4, slf_cells, slf_one]
          refine hK21 _ _ ?_; try clear hK21 K21
          conv => enter [5]; simp only [setL_cons, setL_nil, List.set_cons_zero, List.set_cons_succ]
          refine AW.block ?_
          refine AW.loop_dr (α := Nat) (fun i => [.any, .any, .any, .any, .any, (.val (.int .i64 ((m : Nat) : Int))), (.ref σ.length 0), (.ref (σ.length + 2) 0), .any, (.val (.int .i64 0)), .any, (.val (.int .i64 ((i : Nat) : Int))), .any, .any, .any, .any, .any, .any, .any, .any, .any, .any, .any, .any, .any, .any, .any, .any, .any, .any, .any, .any, .any, .any, .any, .any, .any, .any, .any, .any, .any, .any, .any, .any, .any, .any, .any, .any, .any, .any, .any, .any, .any, .any, .any, .any, .any, .any, .any, .any, .any, .any, .any, .any, .any, .any, .any, .any, .any, .any, .any, .any, .any, .any, .any, .any, .any, .any, .any, .any, .any, .any, .any, .any, .any, .any, .any, .any, .any, .any, .any, .any, .any, .any, .any, .any, .any, .any, .any, .any, .any, .any, .any, .any, .any, .any, .any, .any, .any, .any, .any, .any, .any, .any, .any, .any, .any, .any, .any, .any, .any, .any, .any, .any, .any, .any, .any, .any, .any, .any, .any, .any, .any, .any, .any, .any, .any, .any, .any, .any, .any, .any, .any, .any, .any, .any, .any]) (fun i => σ ++ [.cells [.val (.string fN), .nilsl, .sl 4 [outB.enc], .slf 7 [blk0.enc]], .dead, .cells [.slo false 4 ((List.range i).map dgF) (σ.length + 3)], .cap i 4]) (fun i => m - i) (fun i => 1 ≤ i ∧ i ≤ M) 1 ?_ ?_ ?_
          · exact ⟨⟨Nat.le_refl _, by omega⟩, by simp [Wk], rfl⟩
          · refine fun y _ => ⟨?_, bel_app σ fun a ha => ?_⟩
            · simp only [belL, AV.bel, Bool.and_true, Bool.true_and, Bool.and_eq_true, decide_eq_true_eq, List.length_append, List.length_cons, List.length_nil]
              omega
            · simp only [List.mem_cons, List.not_mem_nil, or_false] at ha
              rcases ha with rfl | rfl | rfl | rfl
              · rfl
              · rfl
              · simp only [AO.bel, belL, AV.bel, Bool.and_true, Bool.and_eq_true, decide_eq_true_eq, List.length_append, List.length_cons, List.length_nil]
                exact ⟨by omega, dgs_bel _ _⟩
              · rfl
          · rintro i ⟨hi, hiM⟩
            refine AW.seq_k fun K22 hK22 => ?_
            refine AW.regl false [73] (by rfl) fun K23 hK23 => ?_ -- region 20
            simp only [go_sem, Nat.reduceAdd, Nat.reduceEqDiff, Nat.reduceLeDiff, true_and, rem1006, rem4, slf_cells, slf_one]
            refine hK23 _ _ ?_; try clear hK23 K23
            conv => enter [5]; simp only [setL_cons, setL_nil, List.set_cons_zero, List.set_cons_succ]
            refine AW.cond rfl (fun hc73 => ?_) (fun hc73 => ?_)
            · skip
              have hi1 : i < m := by simpa using hc73
              have hap := fun σ k => ap_dg (m := i) (by omega) (by omega) σ k
              refine AW.skip ?_
              refine hK22 _ _ ?_; try clear hK22 K22
              refine AW.seq_k fun K24 hK24 => ?_
              refine AW.block ?_
              refine AW.regl false [12] (by rfl) fun K25 hK25 => ?_ -- region 22
              simp only [go_sem, Nat.reduceAdd, Nat.reduceEqDiff, Nat.reduceLeDiff, true_and, rem1006, rem4, slf_cells, slf_one]
              refine hK25 _ _ ?_; try clear hK25 K25
              conv => enter [5]; simp only [setL_cons, setL_nil, List.set_cons_zero, List.set_cons_succ, upd_none, upd_at]
              refine AW.regl false [] (by rfl) fun K26 hK26 => ?_ -- region 23
              simp only [go_sem, Nat.reduceAdd, Nat.reduceEqDiff, Nat.reduceLeDiff, true_and, rem1006, rem4, slf_cells, slf_one]
              refine sC.of en6 ((name_calls i).on _).here (by rfl) ?_
              simp only [go_sem, Nat.reduceAdd, Nat.reduceEqDiff, Nat.reduceLeDiff, true_and, rem1006, rem4, slf_cells, slf_one]
              refine hK26 _ _ ?_; try clear hK26 K26
              conv => enter [5]; simp only [setL_cons, setL_nil, List.set_cons_zero, List.set_cons_succ, upd_none, upd_at]
              refine AW.lastl false [] (by rfl) fun K hK => ?_ -- region 24
              simp only [go_sem, Nat.reduceAdd, Nat.reduceEqDiff, Nat.reduceLeDiff, true_and, rem1006, rem4, slf_cells, slf_one, row1_37, hap]
              refine hK _ _ fun env' hw => ?_
              simp only [setL_cons, setL_nil, List.set_cons_zero, List.set_cons_succ] at hw
              refine hK24 _ _ (AW.weaken hw ?_); clear hw; try clear hK24 K24
              refine AW.lastl false [11] (by rfl) fun K hK => ?_ -- region 21
              simp only [go_sem, Nat.reduceAdd, Nat.reduceEqDiff, Nat.reduceLeDiff, true_and, rem1006, rem4, slf_cells, slf_one]
              refine hK _ _ fun env' hw => ?_
              simp only [setL_cons, setL_nil, List.set_cons_zero, List.set_cons_succ] at hw
              refine ⟨i + 1, by omega, ⟨by omega, by omega⟩, ?_, ?_⟩
              · refine hw.trans ?_
                simp [Wk, wrap_succ hi1 hml]
              · simp [List.take_append, List.take_of_length_le, List.range_succ]
            · skip
              have hi1 : i = M := by
                have : ¬ i < m := by simpa using hc73
                omega
              refine AW.exit ?_
              refine hK20 _ _ ?_; try clear hK20 K20
              rw [hi1]
              refine AW.regl false [87] (by rfl) fun K27 hK27 => ?_ -- region 25
              simp only [go_sem, Nat.reduceAdd, Nat.reduceEqDiff, Nat.reduceLeDiff, true_and, rem1006, rem4, slf_cells, slf_one]
              refine hK27 _ _ ?_; try clear hK27 K27
              conv => enter [5]; simp only [setL_cons, setL_nil, List.set_cons_zero, List.set_cons_succ]
              refine AW.cond rfl (fun hc87 => ?_) (fun hc87 => ?_)
              · skip
                have hb : m > 1000 := by have h := hc87; simp at h; omega
                have hsh := sh2 (m := M) (by omega) (by omega)
                rw [decide_eq_false (by omega)] at hsh
                refine AW.still (σ.length + 2) ((app_get σ _ 2).trans rfl) ?_
                rw [app_set]
                conv => enter [6]; simp only [List.map_cons, List.map_nil, List.set_cons_succ, List.set_cons_zero, still_slo, still_f, still_str, still_sl, still_slf, still_nil, still_osl]
                refine AW.tellW (σ.length + 2) (FileM.enc ⟨false, ds2 M⟩).cells ((app_get σ _ 2).trans rfl) (enc2 M) ?_
                rw [app_set]
                conv => enter [6]; simp only [List.map_cons, List.map_nil, List.set_cons_succ, List.set_cons_zero]
                refine AW.lastl false [9] (by rfl) fun K hK => ?_ -- region 26
                simp only [go_sem, Nat.reduceAdd, Nat.reduceEqDiff, Nat.reduceLeDiff, true_and, rem1006, rem4, slf_cells, slf_one]
                refine hK _ _ fun env' hw => ?_
                simp only [setL_cons, setL_nil, List.set_cons_zero, List.set_cons_succ] at hw
                refine ⟨(ds2 M, false, _), ⟨hsh, ?_⟩, (hw.trans (by simp [Wk])), rfl⟩
                rfl
              · skip
                have hb : ¬ m > 1000 := by have h := hc87; simp at h; omega
                have hsh := sh2 (m := M) (by omega) (by omega)
                rw [decide_eq_true (by omega)] at hsh
                refine AW.still (σ.length + 2) ((app_get σ _ 2).trans rfl) ?_
                rw [app_set]
                conv => enter [6]; simp only [List.map_cons, List.map_nil, List.set_cons_succ, List.set_cons_zero, still_slo, still_f, still_str, still_sl, still_slf, still_nil, still_osl]
                refine AW.tellW (σ.length + 2) (FileM.enc ⟨false, ds2 M⟩).cells ((app_get σ _ 2).trans rfl) (enc2 M) ?_
                rw [app_set]
                conv => enter [6]; simp only [List.map_cons, List.map_nil, List.set_cons_succ, List.set_cons_zero]
                refine AW.skip ?_
                refine ⟨(ds2 M, true, _), ⟨hsh, ?_⟩, (by simp [Wk]), rfl⟩
                rfl
        · skip
          have q2 : ¬ q = 2 := fun h => by rw [h] at hc69; simp at hc69
          refine AW.regl false [88] (by rfl) fun K28 hK28 => ?_ -- region 27
          simp only [go_sem, Nat.reduceAdd, Nat.reduceEqDiff, Nat.reduceLeDiff, true_and, rem1006, rem4, slf_cells, slf_one]
          refine hK28 _ _ ?_; try clear hK28 K28
          conv => enter [5]; simp only [setL_cons, setL_nil, List.set_cons_zero, List.set_cons_succ]
          refine AW.cond rfl (fun hc88 => ?_) (fun hc88 => ?_)
          · skip
            refine AW.regl false [13] (by rfl) fun K29 hK29 => ?_ -- region 28
            simp only [go_sem, Nat.reduceAdd, Nat.reduceEqDiff, Nat.reduceLeDiff, true_and, rem1006, rem4, slf_cells, slf_one]
            refine hK29 _ _ ?_; try clear hK29 K29
            conv => enter [5]; simp only [setL_cons, setL_nil, List.set_cons_zero, List.set_cons_succ, upd_none, upd_at]
            refine AW.regl false [] (by rfl) fun K30 hK30 => ?_ -- region 29
            simp only [go_sem, Nat.reduceAdd, Nat.reduceEqDiff, Nat.reduceLeDiff, true_and, rem1006, rem4, slf_cells, slf_one]
            refine hK30 _ _ ?_; try clear hK30 K30
            conv => enter [5]; simp only [setL_cons, setL_nil, List.set_cons_zero, List.set_cons_succ, upd_none, upd_at]
            refine AW.seq_k fun K31 hK31 => ?_
            refine AW.cap 2 ?_
            simp only [List.append_assoc, List.cons_append, List.nil_append]
            refine AW.own (σ.length + 3) 1 (σ.length + 4) ((app_get σ _ 3).trans rfl) rfl ((app_get σ _ 4).trans rfl) (by decide) ?_
            simp only [app_set, List.set_cons_zero, List.set_cons_succ]
            refine AW.regl false [14] (by rfl) fun K32 hK32 => ?_ -- region 30
            simp only [go_sem, Nat.reduceAdd, Nat.reduceEqDiff, Nat.reduceLeDiff, true_and, rem1006, rem4, slf_cells, slf_one]
            refine hK32 _ _ ?_; try clear hK32 K32
            conv => enter [5]; simp only [setL_cons, setL_nil, List.set_cons_zero, List.set_cons_succ]
            refine AW.block ?_
            refine AW.loop_wk (α := Nat) (fun i => [.any, .any, .any, .any, .any, (.val (.int .i64 ((m : Nat) : Int))), .any, (.ref (σ.length + 2) 0), (.ref (σ.length + 1) 0), (.val (.int .i64 0)), .any, .any, .any, (.ref (σ.length + 3) 0), (.val (.int .i64 ((i : Nat) : Int))), .any, .any, .any, .any, .any, .any, .any, .any, .any, .any, .any, .any, .any, .any, .any, .any, .any, .any, .any, .any, .any, .any, .any, .any, .any, .any, .any, .any, .any, .any, .any, .any, .any, .any, .any, .any, .any, .any, .any, .any, .any, .any, .any, .any, .any, .any, .any, .any, .any, .any, .any, .any, .any, .any, .any, .any, .any, .any, .any, .any, .any, .any, .any, .any, .any, .any, .any, .any, .any, .any, .any, .any, .any, .any, .any, .any, .any, .any, .any, .any, .any, .any, .any, .any, .any, .any, .any, .any, .any, .any, .any, .any, .any, .any, .any, .any, .any, .any, .any, .any, .any, .any, .any, .any, .any, .any, .any, .any, .any, .any, .any, .any, .any, .any, .any, .any, .any, .any, .any, .any, .any, .any, .any, .any, .any, .any, .any, .any, .any, .any, .any, .any]) (fun i => σ ++ [.cells [.val (.string fN), .nilsl, .sl 4 [outB.enc], .slf 7 [blk0.enc]], .cells [.val (.string fN), .nilsl, .sl 4 [outB.enc], .slf 7 [blk0.enc]], .cells [.osl (σ.length + 1) 0 1 4], .cells [str gN, .slo true 2 ((insN i).map PortM.enc) (σ.length + 4), .sl 4 [outB.enc], .slf 7 [blk0.enc]], .cap i 2]) (fun i => m - i) (fun i => i ≤ K0) 0 ?_ ?_
            · exact ⟨Nat.zero_le _, by simp [Wk], rfl⟩
            · intro i hi
              refine AW.seq_k fun K33 hK33 => ?_
              refine AW.regtf false 98 (.val (.bool ((decide (((i : Nat) : Int) < ((m : Nat) : Int))) && (decide (((i : Nat) : Int) < 1000))))) (by rfl) ?_ ?_ -- region 31
              · skip
                cases h94 : ((decide (((i : Nat) : Int) < ((m : Nat) : Int))))
                · skip
                  simp only [go_sem, Nat.reduceAdd, Nat.reduceEqDiff, Nat.reduceLeDiff, true_and, rem1006, rem4, slf_cells, slf_one, h94]
                  try simp [upd_at, h94, rem1006, rem4, slf_cells, slf_one]
                · skip
                  simp only [go_sem, Nat.reduceAdd, Nat.reduceEqDiff, Nat.reduceLeDiff, true_and, rem1006, rem4, slf_cells, slf_one, h94]
                  try simp [upd_at, h94, rem1006, rem4, slf_cells, slf_one]
              conv => enter [5]; simp only [List.set_cons_zero, List.set_cons_succ]
              refine AW.cond rfl (fun hc98 => ?_) (fun hc98 => ?_)
              · skip
                have hi1 : i < m ∧ i < 1000 := by have h := hc98; simp at h; omega
                have hap := fun σ k => ap_port (m := i) (by omega) true σ k
                refine AW.skip ?_
                refine hK33 _ _ ?_; try clear hK33 K33
                refine AW.seq_k fun K35 hK35 => ?_
                refine AW.block ?_
                refine AW.lastch mixed [σ ++ [.cells [.val (.string fN), .nilsl, .sl 4 [outB.enc], .slf 7 [blk0.enc]], .cells [.val (.string fN), .nilsl, .sl 4 [outB.enc], .slf 7 [blk0.enc]], .cells [.osl (σ.length + 1) 0 1 4], .cells [str gN, .slo true 2 ((insN i).map PortM.enc) (σ.length + 4), .sl 4 [outB.enc], .slf 7 [blk0.enc]], .cap i 2], σ ++ [.cells [str fN, .nilsl, .sl 4 [outB.enc], .slf 7 [blk0.enc]], .cells [str fN, .nilsl, .sl 4 [outB.enc], .slf 7 [blk0.enc]], .cells [.osl (σ.length + 1) 0 1 4], .cells [str gN, .slo true 2 ((insN i).map PortM.enc) (σ.length + 4), .sl 4 [outB.enc], .slf 7 [blk0.enc]], .cap (i + 1) 2], σ ++ [.cells [str fN, .nilsl, .sl 4 [outB.enc], .slf 7 [blk0.enc]], .cells [str fN, .nilsl, .sl 4 [outB.enc], .slf 7 [blk0.enc]], .cells [.osl (σ.length + 1) 0 1 4], .cells [str gN, .slo true 2 ((insN (i + 1)).map PortM.enc) (σ.length + 4), .sl 4 [outB.enc], .slf 7 [blk0.enc]], .cap (i + 1) 2]] [(0, 0, true), (0, 0, true), (0, 0, true), (0, 0, true), (0, 0, true), (0, 0, true), (0, 0, false), (1, 1, true), (0, 0, false)] [] (by kernel_rfl) (by rfl) (by kernel_rfl) (by rfl) fun K hK => ?_ -- region 33
                simp only [go_sem, Nat.reduceAdd, Nat.reduceEqDiff, Nat.reduceLeDiff, true_and, rem1006, rem4, slf_cells, slf_one, row1_34, hap, List.append_assoc, List.cons_append, List.nil_append]
                refine xQ.of en6 (fun s _ => ((name_calls i)) s) (by rfl) ?_
                simp only [go_sem, Nat.reduceAdd, Nat.reduceEqDiff, Nat.reduceLeDiff, true_and, rem1006, rem4, slf_cells, slf_one, row1_34, hap, List.append_assoc, List.cons_append, List.nil_append]
                refine xE.of (by first | rfl | (simp; done) | (simp; repeat' constructor)) ?_
                simp only [go_sem, Nat.reduceAdd, Nat.reduceEqDiff, Nat.reduceLeDiff, true_and, rem1006, rem4, slf_cells, slf_one, row1_34, hap, List.append_assoc, List.cons_append, List.nil_append]
                refine xE.of (by first | rfl | (simp; done) | (simp; repeat' constructor)) ?_
                simp only [go_sem, Nat.reduceAdd, Nat.reduceEqDiff, Nat.reduceLeDiff, true_and, rem1006, rem4, slf_cells, slf_one, row1_34, hap, List.append_assoc, List.cons_append, List.nil_append]
                refine hK _ fun env' hw => ?_
                simp only [setL_cons, setL_nil, List.set_cons_zero, List.set_cons_succ, upd_none, upd_at] at hw
                refine hK35 _ _ (AW.weaken hw ?_); clear hw; try clear hK35 K35
                refine AW.lastl false [14] (by rfl) fun K hK => ?_ -- region 32
                simp only [go_sem, Nat.reduceAdd, Nat.reduceEqDiff, Nat.reduceLeDiff, true_and, rem1006, rem4, slf_cells, slf_one]
                refine hK _ _ fun env' hw => ?_
                simp only [setL_cons, setL_nil, List.set_cons_zero, List.set_cons_succ] at hw
                refine ⟨i + 1, by omega, by omega, ?_, rfl⟩
                refine hw.trans ?_
                simp [Wk, wrap_succ hi1.1 hml]
              · skip
                have hi1 : i = K0 := by
                  have h := hc98
                  simp at h
                  omega
                refine AW.exit ?_
                refine hK31 _ _ ?_; try clear hK31 K31
                rw [hi1]
                refine AW.regch mixed [σ ++ [.cells [.val (.string fN), .nilsl, .sl 4 [outB.enc], .slf 7 [blk0.enc]], .cells [.val (.string fN), .nilsl, .sl 4 [outB.enc], .slf 7 [blk0.enc]], .cells [.osl (σ.length + 1) 0 1 4], .cells [str gN, .slo true 2 ((insN K0).map PortM.enc) (σ.length + 4), .sl 4 [outB.enc], .slf 7 [blk0.enc]], .cap K0 2], σ ++ [.cells [str fN, .nilsl, .sl 4 [outB.enc], .slf 7 [blk0.enc]], .cells [str fN, .nilsl, .sl 4 [outB.enc], .slf 7 [blk0.enc]], .cells [.osl (σ.length + 1) 0 1 4], .cells [str gN, .slo true 2 ((insN K0).map PortM.enc) (σ.length + 4), .sl 4 [outB.enc], .slf 7 [blk0.enc]], .cap K0 2, .cells (((List.replicate m src0).map Src.enc).flatMap AV.cells)], σ ++ [.cells [str fN, .nilsl, .sl 4 [outB.enc], .slf 7 [blk0.enc]], .cells [str fN, .nilsl, .sl 4 [outB.enc], .slf 7 [blk0.enc]], .cells [.osl (σ.length + 1) 0 1 4], .cells [str gN, .slo true 2 ((insN K0).map PortM.enc) (σ.length + 4), .sl 4 [outB.enc], .slf 7 [blk0.enc]], .cap K0 2, .cells (((List.replicate m src0).map Src.enc).flatMap AV.cells), .cap 2 7], σ ++ [.cells [str fN, .nilsl, .sl 4 [outB.enc], .slf 7 [blk0.enc]], .cells [str fN, .nilsl, .sl 4 [outB.enc], .slo false 7 [blk0.enc, .agg [i64 7, i64 0, i64 1, i64 0, .val (.int .i32 0), .val (.int .i32 0), .osl (σ.length + 5) 0 m 2]] (σ.length + 6)], .cells [.osl (σ.length + 1) 0 1 4], .cells [str gN, .slo true 2 ((insN K0).map PortM.enc) (σ.length + 4), .sl 4 [outB.enc], .slf 7 [blk0.enc]], .cap K0 2, .cells (((List.replicate m src0).map Src.enc).flatMap AV.cells), .cap 2 7]] [(0, 2, true), (0, 1, true), (0, 1, true), (0, 1, true), (0, 1, true), (0, 0, true), (0, 0, false), (1, 1, true), (1, 1, true), (0, 0, false), (2, 2, true), (2, 2, true), (0, 0, false)] [] (by kernel_rfl) (by rfl) (by kernel_rfl) (by rfl) fun K36 hK36 => ?_ -- region 34
                simp only [go_sem, Nat.reduceAdd, Nat.reduceEqDiff, Nat.reduceLeDiff, true_and, rem1006, rem4, slf_cells, slf_one, mkSrc (show m ≤ 2000 by omega), row1_33, apF, List.append_assoc, List.cons_append, List.nil_append]
                refine xE.of (by first | rfl | (simp; done) | (simp; repeat' constructor)) ?_
                simp only [go_sem, Nat.reduceAdd, Nat.reduceEqDiff, Nat.reduceLeDiff, true_and, rem1006, rem4, slf_cells, slf_one, mkSrc (show m ≤ 2000 by omega), row1_33, apF, List.append_assoc, List.cons_append, List.nil_append]
                refine xE.of (by first | rfl | (simp; done) | (simp; repeat' constructor)) ?_
                simp only [go_sem, Nat.reduceAdd, Nat.reduceEqDiff, Nat.reduceLeDiff, true_and, rem1006, rem4, slf_cells, slf_one, mkSrc (show m ≤ 2000 by omega), row1_33, apF, List.append_assoc, List.cons_append, List.nil_append]
                refine xE.of (by first | rfl | (simp; done) | (simp; repeat' constructor)) ?_
                simp only [go_sem, Nat.reduceAdd, Nat.reduceEqDiff, Nat.reduceLeDiff, true_and, rem1006, rem4, slf_cells, slf_one, mkSrc (show m ≤ 2000 by omega), row1_33, apF, List.append_assoc, List.cons_append, List.nil_append]
                refine hK36 _ ?_; try clear hK36 K36
                conv => enter [5]; simp only [setL_cons, setL_nil, List.set_cons_zero, List.set_cons_succ, upd_none, upd_at]
                show AW _ _ _ _ _ (σ ++ [.cells [str fN, .nilsl, .sl 4 [outB.enc], .slf 7 [blk0.enc]], .cells [str fN, .nilsl, .sl 4 [outB.enc], .slo false 7 [blk0.enc, .agg [i64 7, i64 0, i64 1, i64 0, .val (.int .i32 0), .val (.int .i32 0), .osl (σ.length + 5) 0 m 2]] (σ.length + 6)], .cells [.osl (σ.length + 1) 0 1 4], .cells [str gN, .slo true 2 ((insN K0).map PortM.enc) (σ.length + 4), .sl 4 [outB.enc], .slf 7 [blk0.enc]], .cap K0 2, .cells (((List.replicate m src0).map Src.enc).flatMap AV.cells), .cap 2 7]) _
                refine AW.still (σ.length + 1) ((app_get σ _ 1).trans rfl) ?_
                rw [app_set]
                conv => enter [6]; simp only [List.map_cons, List.map_nil, List.set_cons_succ, List.set_cons_zero, still_slo, still_f, still_str, still_sl, still_slf, still_nil, still_osl]
                refine AW.still (σ.length + 3) ((app_get σ _ 3).trans rfl) ?_
                rw [app_set]
                conv => enter [6]; simp only [List.map_cons, List.map_nil, List.set_cons_succ, List.set_cons_zero, still_slo, still_f, still_str, still_sl, still_slf, still_nil, still_osl]
                refine AW.freeze σ.length (σ.length + 5) m 2 ((List.replicate m src0).map Src.enc) ((app_get σ _ 5).trans rfl) rfl (by simp) (fun e he => by obtain ⟨b, _, rfl⟩ := List.mem_map.1 he; rfl) ?_
                rw [app_set, subFrom_app]
                conv => enter [5]; simp only [subL, AV.sub, sub_out, sub_blk, sub_prow, sub_ports, sub_dgs, sub_reps, sub_srcs, Nat.add_left_cancel_iff, Nat.reduceEqDiff, Nat.add_eq_left, Nat.succ_ne_self, Nat.succ_ne_zero, reduceCtorEq, Nat.one_ne_zero, Nat.zero_ne_one, false_and, and_false, if_false, and_self, true_and, and_true, if_true]
                conv => enter [6]; simp only [List.map_cons, List.map_nil, List.set_cons_succ, List.set_cons_zero, AO.sub, subL, AV.sub, sub_out, sub_blk, sub_prow, sub_ports, sub_dgs, sub_reps, sub_srcs, Nat.add_left_cancel_iff, Nat.reduceEqDiff, Nat.add_eq_left, Nat.succ_ne_self, Nat.succ_ne_zero, reduceCtorEq, Nat.one_ne_zero, Nat.zero_ne_one, false_and, and_false, if_false, and_self, true_and, and_true, if_true]
                rw [← subB_enc m]
                refine AW.hold (σ.length + 1) (σ.length + 2) 0 [.agg [str fN, .nilsl, .sl 4 [outB.enc], .sl 7 [blk0.enc, (subB m).enc]]] ((app_get σ _ 2).trans rfl) ((app_get σ _ 1).trans rfl) rfl rfl rfl (by decide) (fun e he => by simp only [List.range_one, List.map_cons, List.map_nil, List.mem_singleton] at he; rw [he]; rfl) (by decide) (by omega) ?_
                rw [app_set, app_set]
                simp only [List.map_cons, List.map_nil, List.set_cons_succ, List.set_cons_zero, List.length_append, List.length_cons, List.length_nil, Nat.reduceAdd, List.append_assoc, List.cons_append, List.nil_append]
                refine AW.regl false [] (by rfl) fun K37 hK37 => ?_ -- region 35
                simp only [go_sem, Nat.reduceAdd, Nat.reduceEqDiff, Nat.reduceLeDiff, true_and, rem1006, rem4, slf_cells, slf_one, row1_37, ap2, one_row]
                refine hK37 _ _ ?_; try clear hK37 K37
                conv => enter [5]; simp only [setL_cons, setL_nil, List.set_cons_zero, List.set_cons_succ, upd_none, upd_at]
                refine AW.regl false [128] (by rfl) fun K38 hK38 => ?_ -- region 36
                simp only [go_sem, Nat.reduceAdd, Nat.reduceEqDiff, Nat.reduceLeDiff, true_and, rem1006, rem4, slf_cells, slf_one]
                refine hK38 _ _ ?_; try clear hK38 K38
                conv => enter [5]; simp only [setL_cons, setL_nil, List.set_cons_zero, List.set_cons_succ]
                refine AW.cond rfl (fun hc128 => ?_) (fun hc128 => ?_)
                · skip
                  have hb : m > 1000 := by have h := hc128; simp at h; omega
                  have hsh := sh3 (m := m) (k := K0) (by omega) hK0m
                  rw [decide_eq_false (by omega)] at hsh
                  refine AW.still (σ.length + 2) ((app_get σ _ 2).trans rfl) ?_
                  rw [app_set]
                  conv => enter [6]; simp only [List.map_cons, List.map_nil, List.set_cons_succ, List.set_cons_zero, still_slo, still_f, still_str, still_sl, still_slf, still_nil, still_osl]
                  refine AW.tellW (σ.length + 2) (FileM.enc ⟨false, ds3 m K0⟩).cells ((app_get σ _ 2).trans rfl) (enc3 m K0) ?_
                  rw [app_set]
                  conv => enter [6]; simp only [List.map_cons, List.map_nil, List.set_cons_succ, List.set_cons_zero]
                  refine AW.lastl false [9] (by rfl) fun K hK => ?_ -- region 37
                  simp only [go_sem, Nat.reduceAdd, Nat.reduceEqDiff, Nat.reduceLeDiff, true_and, rem1006, rem4, slf_cells, slf_one]
                  refine hK _ _ fun env' hw => ?_
                  simp only [setL_cons, setL_nil, List.set_cons_zero, List.set_cons_succ] at hw
                  refine ⟨(ds3 m K0, false, _), ⟨hsh, ?_⟩, (hw.trans (by simp [Wk])), rfl⟩
                  rfl
                · skip
                  have hb : ¬ m > 1000 := by have h := hc128; simp at h; omega
                  have hsh := sh3 (m := m) (k := K0) (by omega) hK0m
                  rw [decide_eq_true (by omega)] at hsh
                  refine AW.still (σ.length + 2) ((app_get σ _ 2).trans rfl) ?_
                  rw [app_set]
                  conv => enter [6]; simp only [List.map_cons, List.map_nil, List.set_cons_succ, List.set_cons_zero, still_slo, still_f, still_str, still_sl, still_slf, still_nil, still_osl]
                  refine AW.tellW (σ.length + 2) (FileM.enc ⟨false, ds3 m K0⟩).cells ((app_get σ _ 2).trans rfl) (enc3 m K0) ?_
                  rw [app_set]
                  conv => enter [6]; simp only [List.map_cons, List.map_nil, List.set_cons_succ, List.set_cons_zero]
                  refine AW.skip ?_
                  refine ⟨(ds3 m K0, true, _), ⟨hsh, ?_⟩, (by simp [Wk]), rfl⟩
                  rfl
          · skip
            exact absurd hc88 (by have : q = 3 := by omega
                                  rw [this]; simp)
  · skip
    rintro ⟨ds, ok, τ0⟩ ⟨hsh, h2⟩
    dsimp only at hsh h2 ⊢
    refine AW.regl false [15, 16] (by rfl) fun K39 hK39 => ?_ -- region 38
    simp only [go_sem, Nat.reduceAdd, Nat.reduceEqDiff, Nat.reduceLeDiff, true_and, rem1006, rem4, slf_cells, slf_one, h2, file_get, file_all, aExtract]
    refine sC.ofR en7 (lawCheckR hΓ hsh _) (fun v' σ' hR => ?_)
    obtain ⟨p, τ1, rfl, rfl, hpn⟩ := hR
    simp only [go_sem, Nat.reduceAdd, Nat.reduceEqDiff, Nat.reduceLeDiff, true_and, rem1006, rem4, slf_cells, slf_one, h2, file_get, file_all, aExtract]
    refine hK39 _ _ ?_; try clear hK39 K39
    conv => enter [5]; simp only [setL_cons, setL_nil, List.set_cons_zero, List.set_cons_succ]
    refine AW.regtf false 4 (.val (.bool (true))) (by rfl) ?_ ?_ -- region 39
    · skip
      simp only [go_sem, Nat.reduceAdd, Nat.reduceEqDiff, Nat.reduceLeDiff, true_and, rem1006, rem4, slf_cells, slf_one, hpn, ofC_ptr, eq4, ok0, beq_self_eq_true]
      refine sC.of en8 ((awake_calls hΓ).on _).here (by rfl) ?_
      simp only [go_sem, Nat.reduceAdd, Nat.reduceEqDiff, Nat.reduceLeDiff, true_and, rem1006, rem4, slf_cells, slf_one, hpn, ofC_ptr, eq4, ok0, beq_self_eq_true]
      try simp [upd_at, rem1006, rem4, slf_cells, slf_one, hpn, ofC_ptr, eq4, ok0, beq_self_eq_true]
    conv => enter [5]; simp only [List.set_cons_zero, List.set_cons_succ]
    refine AW.ret ⟨.inr rfl, _, rfl, by first | (simp; done) | exact ⟨_, by rw [List.append_assoc]⟩, ?_⟩ -- return 1
    exact .keep rfl
end Fl
end Go.Proofs.Tryd
