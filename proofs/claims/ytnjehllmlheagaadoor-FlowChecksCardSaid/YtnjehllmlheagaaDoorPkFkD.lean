import Derived.Test.YtnjehllmlheagaaDoorPkFkB
import Derived.Test.YtnjehllmlheagaaDoorPkFkC
/-! Flow: function 56. -/
namespace Go.Proofs.Tryd
set_option linter.unusedSimpArgs false
set_option linter.unusedVariables false
open Go Go.Proofs.Ev
namespace Fl
variable {Γ : List (Nat × List AV)} {w : AV} {G : List (Nat × List AV)}
attribute [local go_sem] true_and
set_option maxRecDepth 100000 in
theorem done_fn (d : List Bool) (n k : Nat) {σ : Sto} {o p : Nat} (h1 : σ[o]? = some (.cells [.osl p 0 n 1])) (h2 : σ[p]? = some (.cells (bools d))) (hk : k < n) (hd : d.length = n) : APureOn prog Γ 56 [natA k, .ref o 0] σ (.val (.bool (!d.getD k false))) := by
 refine APureOn.of func56 rfl fun τ => ?_
 simp only [ntmps56, List.length_cons, List.length_nil, Nat.reduceAdd, Nat.reduceSub, List.replicate_succ, List.replicate_zero, List.cons_append, List.nil_append]
 have h1' := getL h1 τ
 have h2' := getL h2 τ
 generalize σ ++ τ = σ at h1' h2' ⊢
 have g1 := getL h1'
 have g2 := getL h2'
 have hat := at_osl (o := p) (k := .i64) hk
 have hdr := dr_bool (d := d) (i := k) (by omega)
 refine AW.regl false [3] (by rfl) fun K1 hK1 => ?_
 simp only [go_sem, Nat.reduceAdd, Nat.reduceEqDiff, Nat.reduceLeDiff, List.length_map, len_row, one_row, List.drop_zero, blk_len, dgm_len, port_len, out_len, src_len, file_len, src_get, port_get, out_get, blk_get, dgm_get, file_get, dgm_all, blk_all, src_all, port_all, out_all, file_all, h1', h2', natA, hat, hdr]
 refine hK1 _ _ ?_
 conv => enter [5]; simp only [sl1, sl0, sz0, sz1]
 refine AW.regl false [3] (by rfl) fun K2 hK2 => ?_
 simp only [go_sem, Nat.reduceAdd, Nat.reduceEqDiff, Nat.reduceLeDiff, List.length_map, len_row, one_row, List.drop_zero, blk_len, dgm_len, port_len, out_len, src_len, file_len, src_get, port_get, out_get, blk_get, dgm_get, file_get, dgm_all, blk_all, src_all, port_all, out_all, file_all, h1', h2', natA, hat, hdr]
 refine hK2 _ _ ?_
 conv => enter [5]; simp only [sl1, sl0, sz0, sz1]
 refine AW.ret ⟨.inr rfl, _, rfl, by simp, ?_⟩
 exact .keep rfl
set_option maxRecDepth 100000 in
theorem indexFunc82 {α : Type} (en : α → AV) (hen : ∀ a, aGet prog 3 (en a).cells = some (en a)) (nl : Bool) (l : List α) (hl : l.length ≤ maxLen) (g : FuncId) (hg : Enters prog g) (caps : List AV) (p : α → Bool) (σ : Sto) (hp : ∀ a ∈ l, APureOn prog Γ g (en a :: caps) σ (.val (.bool (p a)))) : APureOn prog Γ 82 [rowAV 1 nl (l.map en), .fn g caps] σ (.val (.int .i64 (idxFrom p 0 l))) := by
 refine APureOn.of func82 rfl fun τ => ?_
 simp only [ntmps82, List.length_cons, List.length_nil, Nat.reduceAdd, Nat.reduceSub, List.replicate_succ, List.replicate_zero, List.cons_append, List.nil_append]
 have hp' : ∀ (i : Nat) (h : i < l.length), APureOn prog Γ g (en l[i] :: caps) (σ ++ τ) (.val (.bool (p l[i]))) := fun i h => (hp _ (List.getElem_mem h)).more τ
 generalize σ ++ τ = σ at hp' ⊢
 refine AW.regl false [4] (by rfl) fun K1 hK1 => ?_
 simp only [go_sem, Nat.reduceAdd, Nat.reduceEqDiff, Nat.reduceLeDiff, List.length_map, hen]
 refine hK1 _ _ ?_
 conv => enter [5]; simp only [sl1, sl0, sz0, sz1]
 refine AW.seq_k fun K2 hK2 => ?_
 refine AW.regl false [7, 8] (by rfl) fun K3 hK3 => ?_
 simp only [go_sem, Nat.reduceAdd, Nat.reduceEqDiff, Nat.reduceLeDiff, List.length_map, hen]
 refine hK3 _ _ ?_
 conv => enter [5]; simp only [sl1, sl0, sz0, sz1]
 refine AW.block ?_
 refine AW.loop_wk (α := Nat) (fun i => [(rowAV 1 nl (l.map en)), (.fn g caps), .any, .any, .any, .any, .any, (.val (.int .i64 (l.length : Nat))), (.val (.int .i64 (i : Nat))), .any, .any, .any, .any, .any, .any, .any, .any, .any, .any]) (fun i => σ) (fun i => l.length - i) (fun i => i ≤ l.length ∧ idxFrom p 0 l = idxFrom p i (l.drop i)) 0 ?_ ?_
 ·exact ⟨⟨Nat.zero_le _, rfl⟩, by simp [Wk], rfl⟩
 ·rintro i ⟨hi, hix⟩
  refine AW.regl false [9] (by rfl) fun K4 hK4 => ?_
  simp only [go_sem, Nat.reduceAdd, Nat.reduceEqDiff, Nat.reduceLeDiff, List.length_map, hen]
  refine hK4 _ _ ?_
  conv => enter [5]; simp only [sl1, sl0, sz0, sz1]
  refine AW.seq_k fun K5 hK5 => ?_
  refine AW.cond rfl (fun hc9 => ?_) (fun hc9 => ?_)
  ·skip
   have hc9 : i < l.length := by simpa using hc9
   have hx : (l.map en)[i]? = some (en l[i]) := by simp [hc9]
   rw [idxFrom_drop p l i hc9] at hix
   refine AW.skip ?_
   refine hK5 _ _ ?_
   refine AW.seq_k fun K6 hK6 => ?_
   refine AW.block ?_
   refine AW.regl false [5] (by rfl) fun K7 hK7 => ?_
   simp only [go_sem, Nat.reduceAdd, Nat.reduceEqDiff, Nat.reduceLeDiff, List.length_map, hen]
   refine hK7 _ _ ?_
   conv => enter [5]; simp only [sl1, sl0, sz0, sz1]
   refine AW.regl false [16] (by rfl) fun K8 hK8 => ?_
   simp only [go_sem, Nat.reduceAdd, Nat.reduceEqDiff, Nat.reduceLeDiff, List.length_map, hen, at_row hx]
   refine sC.of hg (hp' i hc9).here (by rfl) ?_
   simp only [go_sem, Nat.reduceAdd, Nat.reduceEqDiff, Nat.reduceLeDiff, List.length_map, hen, at_row hx]
   refine hK8 _ _ ?_
   conv => enter [5]; simp only [sl1, sl0, sz0, sz1]
   refine AW.cond rfl (fun hc16 => ?_) (fun hc16 => ?_)
   ·skip
    rw [if_pos hc16] at hix
    refine AW.regl false [4] (by rfl) fun K9 hK9 => ?_
    simp only [go_sem, Nat.reduceAdd, Nat.reduceEqDiff, Nat.reduceLeDiff, List.length_map, hen]
    refine hK9 _ _ ?_
    conv => enter [5]; simp only [sl1, sl0, sz0, sz1]
    refine AW.ret ⟨.inr rfl, _, rfl, by simp, ?_⟩
    refine frzI ?_
    exact hix.symm
   ·skip
    rw [if_neg (ne_true_of_eq_false hc16)] at hix
    refine AW.skip ?_
    refine hK6 _ _ ?_
    refine AW.lastl false [8] (by rfl) fun K hK => ?_
    simp only [go_sem, Nat.reduceAdd, Nat.reduceEqDiff, Nat.reduceLeDiff, List.length_map, hen]
    refine hK _ _ fun env' hw => ?_
    simp only [setL_cons, setL_nil, List.set_cons_zero, List.set_cons_succ] at hw
    refine ⟨i + 1, by omega, ⟨by omega, hix⟩, ?_, rfl⟩
    refine hw.trans ?_
    simp [Wk, wrap_succ hc9 hl]
  ·skip
   have hc : i = l.length := by have : ¬ i < l.length := (by simpa using hc9); omega
   refine AW.exit ?_
   refine hK2 _ _ ?_
   refine AW.regl false [4] (by rfl) fun K10 hK10 => ?_
   simp only [go_sem, Nat.reduceAdd, Nat.reduceEqDiff, Nat.reduceLeDiff, List.length_map, hen]
   refine hK10 _ _ ?_
   conv => enter [5]; simp only [sl1, sl0, sz0, sz1]
   refine AW.ret ⟨.inr rfl, _, rfl, by simp, ?_⟩
   refine frzI ?_
   rw [hix, hc, List.drop_length]
   rfl

set_option maxRecDepth 100000 in
theorem containsFunc55 {α : Type} (en : α → AV) (hen : ∀ a, aGet prog 3 (en a).cells = some (en a)) (nl : Bool) (l : List α) (hl : l.length ≤ maxLen) (g : FuncId) (hg : Enters prog g) (caps : List AV) (p : α → Bool) (σ : Sto) (hp : ∀ a ∈ l, APureOn prog Γ g (en a :: caps) σ (.val (.bool (p a)))) : APureOn prog Γ 55 [rowAV 1 nl (l.map en), .fn g caps] σ (.val (.bool (l.any p))) := by
 refine APureOn.of func55 rfl fun τ => ?_
 simp only [ntmps55, List.length_cons, List.length_nil, Nat.reduceAdd, Nat.reduceSub, List.replicate_succ, List.replicate_zero, List.cons_append, List.nil_append]
 have hi := (indexFunc82 en hen nl l hl g hg caps p σ hp).more τ
 generalize σ ++ τ = σ at hi ⊢
 refine AW.regl false [4] (by rfl) fun K1 hK1 => ?_
 simp only [go_sem, Nat.reduceAdd, Nat.reduceEqDiff, Nat.reduceLeDiff]
 refine hK1 _ _ ?_
 conv => enter [5]; simp only [sl1, sl0, sz0, sz1]
 refine AW.regl false [4] (by rfl) fun K2 hK2 => ?_
 simp only [go_sem, Nat.reduceAdd, Nat.reduceEqDiff, Nat.reduceLeDiff]
 refine sC.of en82 (hi).here (by rfl) ?_
 simp only [go_sem, Nat.reduceAdd, Nat.reduceEqDiff, Nat.reduceLeDiff]
 refine hK2 _ _ ?_
 conv => enter [5]; simp only [sl1, sl0, sz0, sz1]
 refine AW.ret ⟨.inr rfl, _, rfl, by simp, ?_⟩
 refine frzB ?_
 exact idxFrom_nonneg p l 0

set_option maxRecDepth 100000 in
theorem ready_fn (l : List (List Nat)) (nl : Bool) (d : List Bool) (i : Nat) {σ : Sto} {o1 o2 p : Nat} (h1 : σ[o1]? = some (.cells [.osl p 0 l.length 1])) (h2 : σ[p]? = some (.cells (bools d))) (h3 : σ[o2]? = some (.cells [rowAV 1 nl (l.map rowN)])) (hi : i < l.length) (hd : d.length = l.length) (hb : ∀ x ∈ l, ∀ k ∈ x, k < l.length) (hx : ∀ x ∈ l, x.length ≤ maxLen) : APureOn prog Γ 54 [natA i, .ref o1 0, .ref o2 0] σ (.val (.bool (rdy (lmat l) l.length d i))) := by
 refine APureOn.of func54 rfl fun τ => ?_
 simp only [ntmps54, List.length_cons, List.length_nil, Nat.reduceAdd, Nat.reduceSub, List.replicate_succ, List.replicate_zero, List.cons_append, List.nil_append]
 have h1' := getL h1 τ
 have h2' := getL h2 τ
 have h3' := getL h3 τ
 generalize σ ++ τ = σ at h1' h2' h3' ⊢
 have g1 := getL h1'
 have g2 := getL h2'
 have g3 := getL h3'
 have hat := at_osl (o := p) (k := .i64) hi
 have hdr := dr_bool (d := d) (i := i) (by omega)
 obtain ⟨x, hxi⟩ : ∃ z, l[i]? = some z := ⟨_, List.getElem?_eq_getElem hi⟩
 have hxm := List.mem_of_getElem? hxi
 have hy : (l.map rowN)[i]? = some (rowN x) := by simp [hxi]
 have hgx : l.getD i [] = x := by simp [List.getD_eq_getElem?_getD, hxi]
 refine AW.regl false [4] (by rfl) fun K1 hK1 => ?_
 simp only [go_sem, Nat.reduceAdd, Nat.reduceEqDiff, Nat.reduceLeDiff, List.length_map, len_row, one_row, List.drop_zero, blk_len, dgm_len, port_len, out_len, src_len, file_len, src_get, port_get, out_get, blk_get, dgm_get, file_get, dgm_all, blk_all, src_all, port_all, out_all, file_all, h1', h2', h3', natA, hat, hdr]
 refine hK1 _ _ ?_
 conv => enter [5]; simp only [sl1, sl0, sz0, sz1]
 refine AW.regtf false 4 (.val (.bool (!(d.getD i false) && !(x.any fun k => !d.getD k false)))) (by rfl) ?_ ?_
 ·skip
  cases h8 : (d.getD i false)
  ·skip
   simp only [go_sem, Nat.reduceAdd, Nat.reduceEqDiff, Nat.reduceLeDiff, List.length_map, len_row, one_row, List.drop_zero, blk_len, dgm_len, port_len, out_len, src_len, file_len, src_get, port_get, out_get, blk_get, dgm_get, file_get, dgm_all, blk_all, src_all, port_all, out_all, file_all, h1', h2', h3', natA, hat, hdr, at_row hy, rowN_cells, h8]
   refine sC.of en55 (containsFunc55 natA nat_get true x (hx x hxm) 56 en56 [.ref o1 0] (fun k => !d.getD k false) _ (fun k hk => done_fn d l.length k h1' h2' (hb x hxm k hk) hd)).here (by rfl) ?_
   simp only [go_sem, Nat.reduceAdd, Nat.reduceEqDiff, Nat.reduceLeDiff, List.length_map, len_row, one_row, List.drop_zero, blk_len, dgm_len, port_len, out_len, src_len, file_len, src_get, port_get, out_get, blk_get, dgm_get, file_get, dgm_all, blk_all, src_all, port_all, out_all, file_all, h1', h2', h3', natA, hat, hdr, at_row hy, rowN_cells, h8]
   try simp [upd_at, h8, List.length_map, len_row, one_row, List.drop_zero, blk_len, dgm_len, port_len, out_len, src_len, file_len, src_get, port_get, out_get, blk_get, dgm_get, file_get, dgm_all, blk_all, src_all, port_all, out_all, file_all, h1', h2', h3', natA, hat, hdr, at_row hy, rowN_cells]
  ·skip
   simp only [go_sem, Nat.reduceAdd, Nat.reduceEqDiff, Nat.reduceLeDiff, List.length_map, len_row, one_row, List.drop_zero, blk_len, dgm_len, port_len, out_len, src_len, file_len, src_get, port_get, out_get, blk_get, dgm_get, file_get, dgm_all, blk_all, src_all, port_all, out_all, file_all, h1', h2', h3', natA, hat, hdr, at_row hy, rowN_cells, h8]
   try simp [upd_at, h8, List.length_map, len_row, one_row, List.drop_zero, blk_len, dgm_len, port_len, out_len, src_len, file_len, src_get, port_get, out_get, blk_get, dgm_get, file_get, dgm_all, blk_all, src_all, port_all, out_all, file_all, h1', h2', h3', natA, hat, hdr, at_row hy, rowN_cells]
 conv => enter [5]; simp only [sz0, sz1]
 refine AW.ret ⟨.inr rfl, _, rfl, by simp, ?_⟩
 rw [rdy_any hb, hgx]
 exact .keep rfl
end Fl
end Go.Proofs.Tryd
/-! Flow: function 29. -/
namespace Go.Proofs.Tryd
set_option linter.unusedSimpArgs false
set_option linter.unusedVariables false
open Go Go.Proofs.Ev
namespace Fl
variable {Γ : List (Nat × List AV)} {w : AV} {G : List (Nat × List AV)}
attribute [local go_sem] true_and List.length_map len_row one_row List.drop_zero blk_len dgm_len port_len out_len src_len file_len src_get port_get out_get blk_get dgm_get file_get dgm_all blk_all src_all port_all out_all file_all
set_option maxRecDepth 100000 in
set_option maxHeartbeats 1000000 in
theorem sorted_calls (l : List (List Nat)) (nl : Bool) (hn : l.length ≤ 2000) (hb : ∀ x ∈ l, ∀ k ∈ x, k < l.length) (hx : ∀ x ∈ l, x.length ≤ maxLen) : APure prog Γ 29 [rowAV 1 nl (l.map rowN)] (ordV (ord (lmat l) l.length)) := by
 refine APure.of func29 rfl fun σ => ?_
 simp only [ntmps29, List.length_cons, List.length_nil, Nat.reduceAdd, Nat.reduceSub, List.replicate_succ, List.replicate_zero, List.cons_append, List.nil_append]
 have hll : l.length ≤ maxLen := by rw [maxLen_eq]; omega
 rw [show ordV (ord (lmat l) l.length) = ordAV (ord (lmat l) l.length) from (ordAV_eq _).symm]
 refine AW.regl false [1, 2, 3] (by rfl) fun K1 hK1 => ?_
 simp only [go_sem, Nat.reduceAdd, Nat.reduceEqDiff, Nat.reduceLeDiff]
 refine hK1 _ _ ?_
 conv => enter [5]; simp only [sl1, sl0, sz0, sz1]
 refine AW.regl false [4] (by rfl) fun K2 hK2 => ?_
 simp only [go_sem, Nat.reduceAdd, Nat.reduceEqDiff, Nat.reduceLeDiff, mkB hn]
 refine hK2 _ _ ?_
 conv => enter [5]; simp only [sl1, sl0, sz0, sz1, upd_none, upd_at]
 refine AW.regl false [5] (by rfl) fun K3 hK3 => ?_
 simp only [go_sem, Nat.reduceAdd, Nat.reduceEqDiff, Nat.reduceLeDiff]
 refine hK3 _ _ ?_
 conv => enter [5]; simp only [sl1, sl0, sz0, sz1]
 refine AW.cap 1 ?_
 try simp only [List.append_assoc, List.cons_append, List.nil_append]
 refine AW.ownT 5 (σ.length + 3) rfl ((app_get _ _ 3).trans rfl) (by decide) ?_
 try simp only [List.set_cons_zero, List.set_cons_succ]
 refine AW.regl false [6] (by rfl) fun K4 hK4 => ?_
 simp only [go_sem, Nat.reduceAdd, Nat.reduceEqDiff, Nat.reduceLeDiff]
 refine hK4 _ _ ?_
 conv => enter [5]; simp only [sl1, sl0, sz0, sz1]
 refine AW.seq_k fun K5 hK5 => ?_
 refine AW.block ?_
 refine AW.loop_wk (α := List Bool × List Nat) (fun z => [.any, (.ref σ.length 0), .any, .any, (.ref (σ.length + 2) 0), (.slo true 1 (z.2.map natA) (σ.length + 3)), (.fn 54 [.ref (σ.length + 2) 0, .ref σ.length 0]), .any, .any, .any, .any, .any, .any, .any, .any, .any, .any, .any, .any, .any, .any, .any, .any, .any, .any, .any, .any, .any, .any, .any, .any, .any, .any, .any, .any, .any, .any, .any]) (fun z => σ ++ [.cells [rowAV 1 nl (l.map rowN)], .cells (bools z.1), .cells [.osl (σ.length + 1) 0 l.length 1], .cap z.2.length 1]) (fun z => l.length - z.2.length) (fun z => z.1.length = l.length ∧ z.2.length ≤ l.length ∧ ord (lmat l) l.length = ordGo (lmat l) l.length (l.length - z.2.length) z.1 z.2) (List.replicate l.length false, []) ?_ ?_
 ·exact ⟨⟨by simp, Nat.zero_le _, rfl⟩, by simp [Wk], rfl⟩
 ·rintro ⟨d, out⟩ ⟨hd, ho, hord⟩
  simp only at hd ho hord
  refine AW.seq_k fun K6 hK6 => ?_
  refine AW.regl false [17] (by rfl) fun K7 hK7 => ?_
  simp only [go_sem, Nat.reduceAdd, Nat.reduceEqDiff, Nat.reduceLeDiff]
  refine hK7 _ _ ?_
  conv => enter [5]; simp only [sl1, sl0, sz0, sz1]
  refine AW.cond rfl (fun hc17 => ?_) (fun hc17 => ?_)
  ·skip
   have hlt : out.length < l.length := by simpa using hc17
   refine AW.skip ?_
   refine hK6 _ _ ?_
   refine AW.block ?_
   refine AW.regl false [7] (by rfl) fun K8 hK8 => ?_
   simp only [go_sem, Nat.reduceAdd, Nat.reduceEqDiff, Nat.reduceLeDiff]
   refine hK8 _ _ ?_
   conv => enter [5]; simp only [sl1, sl0, sz0, sz1]
   refine AW.seq_k fun K9 hK9 => ?_
   refine AW.regl false [19, 20] (by rfl) fun K10 hK10 => ?_
   simp only [go_sem, Nat.reduceAdd, Nat.reduceEqDiff, Nat.reduceLeDiff]
   refine hK10 _ _ ?_
   conv => enter [5]; simp only [sl1, sl0, sz0, sz1]
   refine AW.block ?_
   refine AW.loop_wk (α := Nat) (fun i => [.any, (.ref σ.length 0), .any, .any, (.ref (σ.length + 2) 0), (.slo true 1 (out.map natA) (σ.length + 3)), (.fn 54 [.ref (σ.length + 2) 0, .ref σ.length 0]), (i64 (-1)), .any, .any, .any, .any, .any, .any, .any, .any, .any, .any, .any, (.val (.int .i64 ((l.length : Nat) : Int))), (.val (.int .i64 ((i : Nat) : Int))), .any, .any, .any, .any, .any, .any, .any, .any, .any, .any, .any, .any, .any, .any, .any, .any, .any]) (fun i => σ ++ [.cells [rowAV 1 nl (l.map rowN)], .cells (bools d), .cells [.osl (σ.length + 1) 0 l.length 1], .cap out.length 1]) (fun i => l.length - i) (fun i => i ≤ l.length ∧ ∀ j, j < i → rdy (lmat l) l.length d j = false) 0 ?_ ?_
   ·exact ⟨⟨Nat.zero_le _, fun j h => absurd h (Nat.not_lt_zero _)⟩, by simp [Wk], rfl⟩
   ·rintro i ⟨hi, hz⟩
    refine AW.regl false [21] (by rfl) fun K11 hK11 => ?_
    simp only [go_sem, Nat.reduceAdd, Nat.reduceEqDiff, Nat.reduceLeDiff]
    refine hK11 _ _ ?_
    conv => enter [5]; simp only [sl1, sl0, sz0, sz1]
    refine AW.seq_k fun K12 hK12 => ?_
    refine AW.cond rfl (fun hc21 => ?_) (fun hc21 => ?_)
    ·skip
     have hi1 : i < l.length := by simpa using hc21
     refine AW.skip ?_
     refine hK12 _ _ ?_
     refine AW.seq_k fun K13 hK13 => ?_
     refine AW.block ?_
     refine AW.regl false [8] (by rfl) fun K14 hK14 => ?_
     simp only [go_sem, Nat.reduceAdd, Nat.reduceEqDiff, Nat.reduceLeDiff]
     refine hK14 _ _ ?_
     conv => enter [5]; simp only [sl1, sl0, sz0, sz1]
     refine AW.regl false [25] (by rfl) fun K15 hK15 => ?_
     simp only [go_sem, Nat.reduceAdd, Nat.reduceEqDiff, Nat.reduceLeDiff]
     refine sC.of en54 (ready_fn l nl d i (σ := σ ++ [.cells [rowAV 1 nl (l.map rowN)], .cells (bools d), .cells [.osl (σ.length + 1) 0 l.length 1], .cap out.length 1]) (o1 := σ.length + 2) (o2 := σ.length) (p := σ.length + 1) (by simp) (by simp) (by simp) hi1 hd hb hx).here (by rfl) ?_
     simp only [go_sem, Nat.reduceAdd, Nat.reduceEqDiff, Nat.reduceLeDiff]
     refine hK15 _ _ ?_
     conv => enter [5]; simp only [sl1, sl0, sz0, sz1]
     refine AW.cond rfl (fun hc25 => ?_) (fun hc25 => ?_)
     ·skip
      have hnx : nxt (lmat l) l.length d = some i := nxt_at hi1 hz hc25
      have hati := at_osl (o := σ.length + 1) (k := .i64) hi1
      have hsz : i + 1 ≤ (bools d).length := by simp [bools]; omega
      have hspi := spl_bool (d := d) (i := i) (by omega) true
      refine AW.regl false [7] (by rfl) fun K16 hK16 => ?_
      simp only [go_sem, Nat.reduceAdd, Nat.reduceEqDiff, Nat.reduceLeDiff]
      refine hK16 _ _ ?_
      conv => enter [5]; simp only [sl1, sl0, sz0, sz1]
      refine AW.exit ?_
      refine hK9 _ _ ?_
      refine AW.seq_k fun K17 hK17 => ?_
      refine AW.regl false [29] (by rfl) fun K18 hK18 => ?_
      simp only [go_sem, Nat.reduceAdd, Nat.reduceEqDiff, Nat.reduceLeDiff]
      refine hK18 _ _ ?_
      conv => enter [5]; simp only [sl1, sl0, sz0, sz1]
      refine AW.cond rfl (fun hc29 => ?_) (fun hc29 => ?_)
      ·skip
       exact absurd hc29 (by simp)
      ·skip
       refine AW.skip ?_
       refine hK17 _ _ ?_
       refine AW.regl false [] (by rfl) fun K19 hK19 => ?_
       simp only [go_sem, Nat.reduceAdd, Nat.reduceEqDiff, Nat.reduceLeDiff, hati, hspi, if_pos hsz]
       refine hK19 _ _ ?_
       conv => enter [5]; simp only [sl1, sl0, sz0, sz1, upd_none, upd_at]
       refine AW.lastl false [5] (by rfl) fun K hK => ?_
       simp only [go_sem, Nat.reduceAdd, Nat.reduceEqDiff, Nat.reduceLeDiff, ap_natN (show out.length ≤ 4000 by omega)]
       refine hK _ _ fun env' hw => ?_
       simp only [setL_cons, setL_nil, List.set_cons_zero, List.set_cons_succ] at hw
       refine ⟨(d.set i true, out ++ [i]), by simp; omega, ⟨by simpa using hd, by simp; omega, ?_⟩, ?_, by simp⟩
       ·rw [hord, show l.length - out.length = (l.length - (out ++ [i]).length) + 1 by simp; omega, ordGo, hnx]
       ·refine hw.trans ?_
        simp [Wk]
     ·skip
      have hrd : rdy (lmat l) l.length d i = false := hc25
      refine AW.skip ?_
      refine hK13 _ _ ?_
      refine AW.lastl false [20] (by rfl) fun K hK => ?_
      simp only [go_sem, Nat.reduceAdd, Nat.reduceEqDiff, Nat.reduceLeDiff]
      refine hK _ _ fun env' hw => ?_
      simp only [setL_cons, setL_nil, List.set_cons_zero, List.set_cons_succ] at hw
      refine ⟨i + 1, by omega, ⟨by omega, fun j hj => ?_⟩, ?_, rfl⟩
      ·rcases Nat.lt_or_ge j i with h | h
       ·exact hz j h
       ·rw [show j = i by omega]; exact hrd
      ·refine hw.trans ?_
       simp [Wk, wrap_succ hi1 hll]
    ·skip
     have hi1 : i = l.length := by
      have : ¬ i < l.length := by simpa using hc21
      omega
     have hnx : nxt (lmat l) l.length d = none := nxt_end fun j hj => hz j (by omega)
     refine AW.exit ?_
     refine hK9 _ _ ?_
     refine AW.seq_k fun K20 hK20 => ?_
     refine AW.regl false [29] (by rfl) fun K21 hK21 => ?_
     simp only [go_sem, Nat.reduceAdd, Nat.reduceEqDiff, Nat.reduceLeDiff]
     refine hK21 _ _ ?_
     conv => enter [5]; simp only [sl1, sl0, sz0, sz1]
     refine AW.cond rfl (fun hc29 => ?_) (fun hc29 => ?_)
     ·skip
      refine AW.regl false [2, 3] (by rfl) fun K22 hK22 => ?_
      simp only [go_sem, Nat.reduceAdd, Nat.reduceEqDiff, Nat.reduceLeDiff]
      refine hK22 _ _ ?_
      conv => enter [5]; simp only [sl1, sl0, sz0, sz1]
      refine AW.ret ⟨.inr rfl, _, rfl, by simp, ?_⟩
      rw [hord, show l.length - out.length = (l.length - out.length - 1) + 1 by omega, ordGo, hnx]
      exact .keep rfl
     ·skip
      exact absurd hc29 (by simp)
  ·skip
   have hlt : out.length = l.length := by
    have : ¬ out.length < l.length := by simpa using hc17
    omega
   refine AW.exit ?_
   refine hK5 _ _ ?_
   refine AW.regl false [2, 3] (by rfl) fun K23 hK23 => ?_
   simp only [go_sem, Nat.reduceAdd, Nat.reduceEqDiff, Nat.reduceLeDiff]
   refine hK23 _ _ ?_
   conv => enter [5]; simp only [sl1, sl0, sz0, sz1]
   refine AW.ret ⟨.inr rfl, _, rfl, by simp, ?_⟩
   rw [hord, hlt, Nat.sub_self]
   exact .tup (.cons (frz_row (fun _ _ => rfl) (by omega) out) (.cons (.keep rfl) .nil))
end Fl
end Go.Proofs.Tryd
/-! Flow: one diagram. -/
namespace Go.Proofs.Tryd
set_option linter.unusedSimpArgs false
set_option linter.unusedVariables false
open Go Go.Proofs.Ev
namespace Fl
variable {Γ : List (Nat × List AV)} {w : AV} {G : List (Nat × List AV)}
/-- Nothing is too much to be reckoned. -/
structure SzD (d : Dgm) : Prop where
 ins : d.ins.length ≤ 2000
 outs : d.outs.length ≤ 2000
 blocks : d.blocks.length ≤ 2000
 src : ∀ b ∈ d.blocks, b.src.length ≤ 2000
theorem typed_at {σ : Sto} {ot oty oo om i n : Nat} {nm : AV} {rest tys ords : List AV} (f : FileM) (hT : TyAt σ ot oty om i n (rowAV 4 f.nl (f.ds.map Dgm.enc)) nm (.osl oo 0 n 1 :: rest) tys) (hoo : σ[oo]? = some (.cells ords)) (n3 : om ≠ oo) (d : Dgm) (o : List Nat) (hord : ords[i]? = some (rowN o)) (hol : o.length ≤ 2000) (hok : ∀ k ∈ o, k < d.blocks.length) (hz : SzD d) (hw : ∀ b ∈ d.blocks, WfB f b) (har : ∀ b ∈ d.blocks, b.kind = 7 → (insT f b).length = b.src.length) (hfo : ∀ e ∈ f.ds, e.outs.length ≤ 2000) (τ : Sto) : ACalls prog (GK w G) 53 [.ref ot 0, i64 ((i : Nat) : Int), d.enc] (sm σ om [] ++ τ) (fun v σ' => ∃ M, σ' = sm σ om M ++ τ ∧ v = .val (.bool (typedB f d o)) ∧ (typedB f d o = true → walkM f d (startM d []) o = some M)) := by
 have := typed_calls (w := w) (G := G) f (hT.app τ) (getL hoo τ) n3 d o hord hol hok hz.ins hz.outs hz.blocks hz.src hw har hfo
 rw [sm_app hT.m] at this
 refine this.mono ?_
 rintro v σ' ⟨M, rfl, h⟩
 exact ⟨M, sm_app hT.m _ _, h⟩
theorem sorted2 (d : Dgm) (hz : SzD d) (hin : inB d) : APure prog Γ 29 [.sl 1 ((hangL d).map rowN)] (ordV (ord (lmat (hangL d)) d.blocks.length)) := by
 have := sorted_calls (Γ := Γ) (hangL d) false (by rw [hangL_len]; exact hz.blocks) (hangL_ok hin) (hangL_le hz.src)
 rwa [row_false, hangL_len] at this
theorem sm_keep2 {σ : Sto} {oo om m : Nat} {M M' : MapM} {cs : List AV} (hb : belL m cs = true) (j : Nat) (a : AO) (h : (sm (σ.set oo (.cells cs)) om M')[j]? = some a) : (sm σ om M)[j]? = some a ∨ a.bel m = true := by
 rcases sm_keep (M := M) (m := m) j a h with h | h
 ·rw [sm, List.getElem?_set] at h
  rw [sm, List.getElem?_set]
  split at h
  ·rename_i e
   rw [if_pos e]
   rw [List.length_set] at h
   exact .inl h
  ·rename_i e
   rw [if_neg e]
   rw [List.getElem?_set] at h
   split at h
   ·split at h
    ·cases h
     exact .inr hb
    ·cases h
   ·exact .inl h
 ·exact .inr h
theorem TyAt.set {σ : Sto} {ot oty om i n oo : Nat} {fc nm : AV} {rest tys : List AV} (h : TyAt σ ot oty om i n fc nm rest tys) (x : AO) (h1 : oo ≠ ot) (h2 : oo ≠ oty) : TyAt (σ.set oo x) ot oty om i n fc nm rest tys :=
 ⟨by rw [List.getElem?_set_ne h1]; exact h.t, by rw [List.getElem?_set_ne h2]; exact h.ty, h.at_, h.len, h.lt, by rw [List.length_set]; exact h.m, h.n1, h.n2⟩
end Fl
end Go.Proofs.Tryd
/-! Flow: three things are made in whatever order. -/
namespace Go.Proofs.Ev
set_option linter.unusedSimpArgs false
set_option linter.unusedVariables false
open Go
variable {F : Fr} {P : Program} {Γ : List (Nat × List AV)}
theorem ARun.one {md : Bool} {ops : Array Oper} {K : Env → Sto → Prop} {o : Oper} {env : Env} {σ σ' : Sto} {v : AV} (hg : o.guard = none) (hop : aop P Γ md σ env o.op = some (v, σ')) (hnc : callVal o.op = false) (hK : K (aput env o.dst v) σ') : ARun P Γ md ops K [o] env σ := by
 have hw : aWanted ops env o = some true := by simp [aWanted, hg]
 unfold ARun
 simp only [hw]
 split
 ·rename_i he
  rw [he] at hnc
  simp [callVal] at hnc
 ·rw [hop]
  exact hK
end Go.Proofs.Ev
namespace Go.Proofs.Tryd
open Go Go.Proofs.Ev
namespace Fl
variable {Γ : List (Nat × List AV)}
def core (o : Oper) : Option Tmp × Op × Option (Nat × Bool) := (o.dst, o.op, o.guard)
def r4cores : List (Option Tmp × Op × Option (Nat × Bool)) :=
 [(some 23, .load 39 (.tmp 1), none), (some 24, .makeMap 83 none, none), (some 25, .move (.tmp 4), none), (some 26, .makeSlice 84 (.tmp 25) (.tmp 25), none), (some 27, .move (.tmp 4), none), (some 28, .makeSlice 85 (.tmp 27) (.tmp 27), none),
  (some 29, .build 87 #[(0, .tmp 23), (1, .tmp 24), (2, .tmp 26), (3, .tmp 28)], none), (some 30, .box 87 (.tmp 29), none), (some 5, .assign (.tmp 30), none)]
def r4needs : List (List Nat) := [[], [], [], [2], [], [4], [0, 1, 3, 5], [6], [7]]
def needB (l : List Oper) : Bool := (List.range 9).all fun x => match l[x]? with
 | some o => (r4needs.getD x []).all fun e => (edges .any o).contains e
 | none => false
def r4obj (n : Nat) (k : Nat) : AO := if k = 1 then .map [] [] else if k = 3 then .cells (List.replicate n (.val (.map none))) else .cells (List.replicate n .nilsl)
def r4t (f : FileM) (b n : Nat) (p : List Nat) : List AV := [rowAV 4 f.nl (f.ds.map Dgm.enc), .mapo (b + p.idxOf 1), .osl (b + p.idxOf 3) 0 n 1, .osl (b + p.idxOf 5) 0 n 1, .nilsl]
structure R4 (f : FileM) (e : Env) (σ0 : Sto) (n : Nat) (S : Nat → Bool) (p : List Nat) (env : Env) (σ : Sto) : Prop where
 len : env.length = e.length
 same : ∀ j, j ≠ 5 → (j < 23 ∨ 30 < j) → env[j]? = e[j]?
 t23 : S 0 = true → env[23]? = some f.enc
 t25 : S 2 = true → env[25]? = some (i64 ((n : Nat) : Int))
 t27 : S 4 = true → env[27]? = some (i64 ((n : Nat) : Int))
 nd : p.Nodup
 mem : ∀ k, k ∈ p ↔ (k = 1 ∨ k = 3 ∨ k = 5) ∧ S k = true
 t24 : S 1 = true → env[24]? = some (.mapo (σ0.length + p.idxOf 1))
 t26 : S 3 = true → env[26]? = some (.osl (σ0.length + p.idxOf 3) 0 n 1)
 t28 : S 5 = true → env[28]? = some (.osl (σ0.length + p.idxOf 5) 0 n 1)
 m6 : S 6 = true → S 1 = true ∧ S 3 = true ∧ S 5 = true
 m7 : S 7 = true → S 6 = true
 m8 : S 8 = true → S 7 = true
 t29 : S 6 = true → env[29]? = some (.agg (r4t f σ0.length n p))
 t30 : S 7 = true → env[30]? = some (.ref (σ0.length + 3) 0)
 t5 : S 8 = true → env[5]? = some (.ref (σ0.length + 3) 0)
 sto : σ = σ0 ++ (p.map (r4obj n) ++ if S 7 = true then [.cells (r4t f σ0.length n p)] else [])
theorem idx_keep {p : List Nat} {k x : Nat} (h : k ∈ p) : (p ++ [x]).idxOf k = p.idxOf k := by rw [List.idxOf_append, if_pos h]
theorem idx_new {p : List Nat} {k : Nat} (h : k ∉ p) : (p ++ [k]).idxOf k = p.length := by
 rw [List.idxOf_append, if_neg h]
 simp
theorem perm3 {p : List Nat} (hd : p.Nodup) (h : ∀ k, k ∈ p ↔ (k = 1 ∨ k = 3 ∨ k = 5)) : p = [1, 3, 5] ∨ p = [1, 5, 3] ∨ p = [3, 1, 5] ∨ p = [3, 5, 1] ∨ p = [5, 1, 3] ∨ p = [5, 3, 1] := by
 have h1 := (h 1).2 (by simp)
 have h3 := (h 3).2 (by simp)
 have h5 := (h 5).2 (by simp)
 match p, hd, h, h1, h3, h5 with
 | [], _, _, h1, _, _ => cases h1
 | [a], _, _, h1, h3, _ => simp at h1 h3; omega
 | [a, b], _, _, h1, h3, h5 => simp at h1 h3 h5; omega
 | [a, b, c], hd, h, h1, h3, h5 =>
  have ha := (h a).1 (by simp)
  have hb := (h b).1 (by simp)
  have hc := (h c).1 (by simp)
  simp at hd h1 h3 h5
  rcases ha with rfl | rfl | rfl <;> rcases hb with rfl | rfl | rfl <;> rcases hc with rfl | rfl | rfl <;> simp at hd h1 h3 h5 ⊢
 | a :: b :: c :: z :: l, hd, h, _, _, _ =>
  exfalso
  have ha := (h a).1 (by simp)
  have hb := (h b).1 (by simp)
  have hc := (h c).1 (by simp)
  have hz := (h z).1 (by simp)
  simp at hd
  omega
theorem get_put {env : Env} {t : Nat} {v : AV} (h : t < env.length) (j : Nat) : (aput env (some t) v)[j]? = if j = t then some v else env[j]? := by
 simp only [aput, List.getElem?_set]
 by_cases e : t = j
 ·subst e; simp [h]
 ·rw [if_neg e, if_neg (fun g => e g.symm)]
theorem mkT {n : Nat} (hn : n ≤ 2000) (σ : Sto) (k k1 : IntKind) : aMakeSlice prog σ 84 (.val (.int k (n : Nat))) (.val (.int k1 (n : Nat))) = some (.osl σ.length 0 n 1, σ ++ [.cells (List.replicate n (.val (.map none)))]) := by
 rw [mk84, if_pos ⟨by omega, by simp [fits]; omega⟩, Int.toNat_natCast, Nat.mul_one, aZ]
set_option maxRecDepth 100000 in
set_option maxHeartbeats 2000000 in
theorem r4_step {f : FileM} {e : Env} {σ0 : Sto} {n : Nat} (hn : n ≤ 2000) (he : e.length = 115) {o1 : Nat} (h1 : e[1]? = some (.ref o1 0)) (h4 : e[4]? = some (i64 ((n : Nat) : Int))) (hf : σ0[o1]? = some (.cells f.enc.cells)) {l : List Oper} (hc : l.map core = r4cores) (hnd : needB l = true)
  (S : Nat → Bool) (x : Nat) (o : Oper) (ho : l[x]? = some o) (hS : S x = false) (hE : ∀ y ∈ edges .any o, S y = true) (env : Env) (σ : Sto) (hI : ∃ p, R4 f e σ0 n S p env σ) : ARun prog Γ false l.toArray (fun env' σ' => ∃ p, R4 f e σ0 n (fun j => j == x || S j) p env' σ') [o] env σ := by
 obtain ⟨p, hI⟩ := hI
 have hco : r4cores[x]? = some (core o) := by rw [← hc, List.getElem?_map, ho]; rfl
 have hx : x < 9 := by
  have := (List.getElem?_eq_some_iff.1 hco).1
  simpa [r4cores] using this
 have hneed : ∀ y ∈ r4needs.getD x [], S y = true := by
  intro y hy
  have := List.all_eq_true.1 hnd x (List.mem_range.2 hx)
  rw [ho] at this
  have := List.all_eq_true.1 this y hy
  exact hE y (by simpa using this)
 obtain ⟨dst, op, ty, pos, af, gd⟩ := o
 have hlen : env.length = 115 := by rw [hI.len, he]
 have g1 : env[1]? = some (.ref o1 0) := by rw [hI.same 1 (by omega) (by omega)]; exact h1
 have g4 : env[4]? = some (i64 ((n : Nat) : Int)) := by rw [hI.same 4 (by omega) (by omega)]; exact h4
 have hsame : ∀ (t : Nat) (v : AV), 23 ≤ t → t ≤ 30 → ∀ j, j ≠ 5 → (j < 23 ∨ 30 < j) → (aput env (some t) v)[j]? = e[j]? := fun t v h1 h2 j hj hj2 => by
  rw [get_put (by omega), if_neg (by omega)]
  exact hI.same j hj hj2
 match x, hx, hco, hneed, hS with
 | 0, _, hco, hneed, hS =>
  simp only [r4cores, List.getElem?_cons_zero, List.getElem?_cons_succ, Option.some.injEq, core, Prod.mk.injEq] at hco
  obtain ⟨rfl, rfl, rfl⟩ := hco
  refine ARun.one rfl (v := f.enc) (σ' := σ) ?_ rfl ⟨p, ?_⟩
  ·have hl : σ[o1]? = some (.cells f.enc.cells) := by rw [hI.sto]; exact getL hf _
   simp [aop, opnd, List.getD_eq_getElem?_getD, g1, aLoad, hl, file_get]
  ·exact ⟨by rw [← hI.len]; simp [aput],
   hsame 23 _ (by omega) (by omega),
   fun _ => by rw [get_put (by omega), if_pos rfl],
   fun h => by rw [get_put (by omega), if_neg (by omega)]; exact hI.t25 (by simpa using h),
   fun h => by rw [get_put (by omega), if_neg (by omega)]; exact hI.t27 (by simpa using h),
   hI.nd,
   fun k => (hI.mem k).trans ⟨fun ⟨h1, h2⟩ => ⟨h1, by simp [h2]⟩, fun ⟨h1, h2⟩ => ⟨h1, by rcases h1 with rfl | rfl | rfl <;> simpa using h2⟩⟩,
   fun h => by rw [get_put (by omega), if_neg (by omega)]; exact hI.t24 (by simpa using h),
   fun h => by rw [get_put (by omega), if_neg (by omega)]; exact hI.t26 (by simpa using h),
   fun h => by rw [get_put (by omega), if_neg (by omega)]; exact hI.t28 (by simpa using h),
   fun h => by obtain ⟨a, b, c⟩ := hI.m6 (by simpa using h); exact ⟨by simp [a], by simp [b], by simp [c]⟩,
   fun h => by have := hI.m7 (by simpa using h); simp [this],
   fun h => by have := hI.m8 (by simpa using h); simp [this],
   fun h => by rw [get_put (by omega), if_neg (by omega)]; exact hI.t29 (by simpa using h),
   fun h => by rw [get_put (by omega), if_neg (by omega)]; exact hI.t30 (by simpa using h),
   fun h => by rw [get_put (by omega), if_neg (by omega)]; exact hI.t5 (by simpa using h),
   by rw [hI.sto]; simp⟩
 | 1, _, hco, hneed, hS =>
  simp only [r4cores, List.getElem?_cons_zero, List.getElem?_cons_succ, Option.some.injEq, core, Prod.mk.injEq] at hco
  obtain ⟨rfl, rfl, rfl⟩ := hco
  have hn6 : ¬ S 6 = true := fun h => by have := (hI.m6 h).1; rw [hS] at this; cases this
  have hn7 : ¬ S 7 = true := fun h => hn6 (hI.m7 h)
  have hsl : σ.length = σ0.length + p.length := by rw [hI.sto, if_neg hn7]; simp
  refine ARun.one rfl (v := .mapo σ.length) (σ' := σ ++ [.map [] []]) ?_ rfl ⟨p ++ [1], ?_⟩
  ·rfl
  ·exact ⟨by rw [← hI.len]; simp [aput],
   hsame 24 _ (by omega) (by omega),
   fun h => by rw [get_put (by omega), if_neg (by omega)]; exact hI.t23 (by simpa using h),
   fun h => by rw [get_put (by omega), if_neg (by omega)]; exact hI.t25 (by simpa using h),
   fun h => by rw [get_put (by omega), if_neg (by omega)]; exact hI.t27 (by simpa using h),
   (by
   rw [List.nodup_append]
   refine ⟨hI.nd, by simp, fun a ha b hb => ?_⟩
   rw [List.mem_singleton.1 hb]
   rintro rfl
   have := ((hI.mem _).1 ha).2
   rw [hS] at this
   cases this),
   (fun k => by
   rw [List.mem_append, hI.mem k, List.mem_singleton]
   constructor
   ·rintro (⟨h1, h2⟩ | rfl)
    ·exact ⟨h1, by simp [h2]⟩
    ·exact ⟨by omega, by simp⟩
   ·rintro ⟨h1, h2⟩
    by_cases e : k = 1
    ·exact .inr e
    ·exact .inl ⟨h1, by simpa [e] using h2⟩),
   fun _ => by rw [get_put (by omega), if_pos rfl, idx_new (fun h => by have := ((hI.mem 1).1 h).2; rw [hS] at this; cases this), hsl],
   (fun h => by
   have h : S 3 = true := by simpa using h
   rw [get_put (by omega), if_neg (by omega), idx_keep ((hI.mem 3).2 ⟨by omega, h⟩)]
   exact hI.t26 h),
   (fun h => by
   have h : S 5 = true := by simpa using h
   rw [get_put (by omega), if_neg (by omega), idx_keep ((hI.mem 5).2 ⟨by omega, h⟩)]
   exact hI.t28 h),
   fun h => absurd (hn6 (by simpa using h)) id,
   fun h => by have := hI.m7 (by simpa using h); simp [this],
   fun h => by have := hI.m8 (by simpa using h); simp [this],
   fun h => absurd (hn6 (by simpa using h)) id,
   fun h => absurd (hn6 (hI.m7 (by simpa using h))) id,
   fun h => absurd (hn6 (hI.m7 (hI.m8 (by simpa using h)))) id,
   by rw [hI.sto, if_neg hn7, if_neg (by simpa using hn7)]; simp [r4obj]⟩
 | 2, _, hco, hneed, hS =>
  simp only [r4cores, List.getElem?_cons_zero, List.getElem?_cons_succ, Option.some.injEq, core, Prod.mk.injEq] at hco
  obtain ⟨rfl, rfl, rfl⟩ := hco
  refine ARun.one rfl (v := i64 ((n : Nat) : Int)) (σ' := σ) ?_ rfl ⟨p, ?_⟩
  ·simp [aop, opnd, List.getD_eq_getElem?_getD, g4]
  ·exact ⟨by rw [← hI.len]; simp [aput],
   hsame 25 _ (by omega) (by omega),
   fun h => by rw [get_put (by omega), if_neg (by omega)]; exact hI.t23 (by simpa using h),
   fun _ => by rw [get_put (by omega), if_pos rfl],
   fun h => by rw [get_put (by omega), if_neg (by omega)]; exact hI.t27 (by simpa using h),
   hI.nd,
   fun k => (hI.mem k).trans ⟨fun ⟨h1, h2⟩ => ⟨h1, by simp [h2]⟩, fun ⟨h1, h2⟩ => ⟨h1, by rcases h1 with rfl | rfl | rfl <;> simpa using h2⟩⟩,
   fun h => by rw [get_put (by omega), if_neg (by omega)]; exact hI.t24 (by simpa using h),
   fun h => by rw [get_put (by omega), if_neg (by omega)]; exact hI.t26 (by simpa using h),
   fun h => by rw [get_put (by omega), if_neg (by omega)]; exact hI.t28 (by simpa using h),
   fun h => by obtain ⟨a, b, c⟩ := hI.m6 (by simpa using h); exact ⟨by simp [a], by simp [b], by simp [c]⟩,
   fun h => by have := hI.m7 (by simpa using h); simp [this],
   fun h => by have := hI.m8 (by simpa using h); simp [this],
   fun h => by rw [get_put (by omega), if_neg (by omega)]; exact hI.t29 (by simpa using h),
   fun h => by rw [get_put (by omega), if_neg (by omega)]; exact hI.t30 (by simpa using h),
   fun h => by rw [get_put (by omega), if_neg (by omega)]; exact hI.t5 (by simpa using h),
   by rw [hI.sto]; simp⟩
 | 3, _, hco, hneed, hS =>
  simp only [r4cores, List.getElem?_cons_zero, List.getElem?_cons_succ, Option.some.injEq, core, Prod.mk.injEq] at hco
  obtain ⟨rfl, rfl, rfl⟩ := hco
  have hn6 : ¬ S 6 = true := fun h => by have := (hI.m6 h).2.1; rw [hS] at this; cases this
  have hn7 : ¬ S 7 = true := fun h => hn6 (hI.m7 h)
  have hsl : σ.length = σ0.length + p.length := by rw [hI.sto, if_neg hn7]; simp
  refine ARun.one rfl (v := .osl σ.length 0 n 1) (σ' := σ ++ [.cells (List.replicate n (.val (.map none)))]) ?_ rfl ⟨p ++ [3], ?_⟩
  ·have h2 := hI.t25 (hneed 2 (by decide))
   simp only [aop, opnd, List.getD_eq_getElem?_getD, h2, Option.getD_some, mkT hn]
  ·exact ⟨by rw [← hI.len]; simp [aput],
   hsame 26 _ (by omega) (by omega),
   fun h => by rw [get_put (by omega), if_neg (by omega)]; exact hI.t23 (by simpa using h),
   fun h => by rw [get_put (by omega), if_neg (by omega)]; exact hI.t25 (by simpa using h),
   fun h => by rw [get_put (by omega), if_neg (by omega)]; exact hI.t27 (by simpa using h),
   (by
   rw [List.nodup_append]
   refine ⟨hI.nd, by simp, fun a ha b hb => ?_⟩
   rw [List.mem_singleton.1 hb]
   rintro rfl
   have := ((hI.mem _).1 ha).2
   rw [hS] at this
   cases this),
   (fun k => by
   rw [List.mem_append, hI.mem k, List.mem_singleton]
   constructor
   ·rintro (⟨h1, h2⟩ | rfl)
    ·exact ⟨h1, by simp [h2]⟩
    ·exact ⟨by omega, by simp⟩
   ·rintro ⟨h1, h2⟩
    by_cases e : k = 3
    ·exact .inr e
    ·exact .inl ⟨h1, by simpa [e] using h2⟩),
   (fun h => by
   have h : S 1 = true := by simpa using h
   rw [get_put (by omega), if_neg (by omega), idx_keep ((hI.mem 1).2 ⟨by omega, h⟩)]
   exact hI.t24 h),
   fun _ => by rw [get_put (by omega), if_pos rfl, idx_new (fun h => by have := ((hI.mem 3).1 h).2; rw [hS] at this; cases this), hsl],
   (fun h => by
   have h : S 5 = true := by simpa using h
   rw [get_put (by omega), if_neg (by omega), idx_keep ((hI.mem 5).2 ⟨by omega, h⟩)]
   exact hI.t28 h),
   fun h => absurd (hn6 (by simpa using h)) id,
   fun h => by have := hI.m7 (by simpa using h); simp [this],
   fun h => by have := hI.m8 (by simpa using h); simp [this],
   fun h => absurd (hn6 (by simpa using h)) id,
   fun h => absurd (hn6 (hI.m7 (by simpa using h))) id,
   fun h => absurd (hn6 (hI.m7 (hI.m8 (by simpa using h)))) id,
   by rw [hI.sto, if_neg hn7, if_neg (by simpa using hn7)]; simp [r4obj]⟩
 | 4, _, hco, hneed, hS =>
  simp only [r4cores, List.getElem?_cons_zero, List.getElem?_cons_succ, Option.some.injEq, core, Prod.mk.injEq] at hco
  obtain ⟨rfl, rfl, rfl⟩ := hco
  refine ARun.one rfl (v := i64 ((n : Nat) : Int)) (σ' := σ) ?_ rfl ⟨p, ?_⟩
  ·simp [aop, opnd, List.getD_eq_getElem?_getD, g4]
  ·exact ⟨by rw [← hI.len]; simp [aput],
   hsame 27 _ (by omega) (by omega),
   fun h => by rw [get_put (by omega), if_neg (by omega)]; exact hI.t23 (by simpa using h),
   fun h => by rw [get_put (by omega), if_neg (by omega)]; exact hI.t25 (by simpa using h),
   fun _ => by rw [get_put (by omega), if_pos rfl],
   hI.nd,
   fun k => (hI.mem k).trans ⟨fun ⟨h1, h2⟩ => ⟨h1, by simp [h2]⟩, fun ⟨h1, h2⟩ => ⟨h1, by rcases h1 with rfl | rfl | rfl <;> simpa using h2⟩⟩,
   fun h => by rw [get_put (by omega), if_neg (by omega)]; exact hI.t24 (by simpa using h),
   fun h => by rw [get_put (by omega), if_neg (by omega)]; exact hI.t26 (by simpa using h),
   fun h => by rw [get_put (by omega), if_neg (by omega)]; exact hI.t28 (by simpa using h),
   fun h => by obtain ⟨a, b, c⟩ := hI.m6 (by simpa using h); exact ⟨by simp [a], by simp [b], by simp [c]⟩,
   fun h => by have := hI.m7 (by simpa using h); simp [this],
   fun h => by have := hI.m8 (by simpa using h); simp [this],
   fun h => by rw [get_put (by omega), if_neg (by omega)]; exact hI.t29 (by simpa using h),
   fun h => by rw [get_put (by omega), if_neg (by omega)]; exact hI.t30 (by simpa using h),
   fun h => by rw [get_put (by omega), if_neg (by omega)]; exact hI.t5 (by simpa using h),
   by rw [hI.sto]; simp⟩
 | 5, _, hco, hneed, hS =>
  simp only [r4cores, List.getElem?_cons_zero, List.getElem?_cons_succ, Option.some.injEq, core, Prod.mk.injEq] at hco
  obtain ⟨rfl, rfl, rfl⟩ := hco
  have hn6 : ¬ S 6 = true := fun h => by have := (hI.m6 h).2.2; rw [hS] at this; cases this
  have hn7 : ¬ S 7 = true := fun h => hn6 (hI.m7 h)
  have hsl : σ.length = σ0.length + p.length := by rw [hI.sto, if_neg hn7]; simp
  refine ARun.one rfl (v := .osl σ.length 0 n 1) (σ' := σ ++ [.cells (List.replicate n .nilsl)]) ?_ rfl ⟨p ++ [5], ?_⟩
  ·have h2 := hI.t27 (hneed 4 (by decide))
   simp only [aop, opnd, List.getD_eq_getElem?_getD, h2, Option.getD_some, mkN hn]
  ·exact ⟨by rw [← hI.len]; simp [aput],
   hsame 28 _ (by omega) (by omega),
   fun h => by rw [get_put (by omega), if_neg (by omega)]; exact hI.t23 (by simpa using h),
   fun h => by rw [get_put (by omega), if_neg (by omega)]; exact hI.t25 (by simpa using h),
   fun h => by rw [get_put (by omega), if_neg (by omega)]; exact hI.t27 (by simpa using h),
   (by
   rw [List.nodup_append]
   refine ⟨hI.nd, by simp, fun a ha b hb => ?_⟩
   rw [List.mem_singleton.1 hb]
   rintro rfl
   have := ((hI.mem _).1 ha).2
   rw [hS] at this
   cases this),
   (fun k => by
   rw [List.mem_append, hI.mem k, List.mem_singleton]
   constructor
   ·rintro (⟨h1, h2⟩ | rfl)
    ·exact ⟨h1, by simp [h2]⟩
    ·exact ⟨by omega, by simp⟩
   ·rintro ⟨h1, h2⟩
    by_cases e : k = 5
    ·exact .inr e
    ·exact .inl ⟨h1, by simpa [e] using h2⟩),
   (fun h => by
   have h : S 1 = true := by simpa using h
   rw [get_put (by omega), if_neg (by omega), idx_keep ((hI.mem 1).2 ⟨by omega, h⟩)]
   exact hI.t24 h),
   (fun h => by
   have h : S 3 = true := by simpa using h
   rw [get_put (by omega), if_neg (by omega), idx_keep ((hI.mem 3).2 ⟨by omega, h⟩)]
   exact hI.t26 h),
   fun _ => by rw [get_put (by omega), if_pos rfl, idx_new (fun h => by have := ((hI.mem 5).1 h).2; rw [hS] at this; cases this), hsl],
   fun h => absurd (hn6 (by simpa using h)) id,
   fun h => by have := hI.m7 (by simpa using h); simp [this],
   fun h => by have := hI.m8 (by simpa using h); simp [this],
   fun h => absurd (hn6 (by simpa using h)) id,
   fun h => absurd (hn6 (hI.m7 (by simpa using h))) id,
   fun h => absurd (hn6 (hI.m7 (hI.m8 (by simpa using h)))) id,
   by rw [hI.sto, if_neg hn7, if_neg (by simpa using hn7)]; simp [r4obj]⟩
 | 6, _, hco, hneed, hS =>
  simp only [r4cores, List.getElem?_cons_zero, List.getElem?_cons_succ, Option.some.injEq, core, Prod.mk.injEq] at hco
  obtain ⟨rfl, rfl, rfl⟩ := hco
  refine ARun.one rfl (v := .agg (r4t f σ0.length n p)) (σ' := σ) ?_ rfl ⟨p, ?_⟩
  ·have k0 := hI.t23 (hneed 0 (by decide))
   have k1 := hI.t24 (hneed 1 (by decide))
   have k3 := hI.t26 (hneed 3 (by decide))
   have k5 := hI.t28 (hneed 5 (by decide))
   simp only [aop, aPartsOf, List.map_cons, List.map_nil, opnd, List.getD_eq_getElem?_getD, k0, k1, k3, k5, Option.getD_some, FileM.enc]
   simp only [go_sem, one_row, r4t]
   simp
  ·exact ⟨by rw [← hI.len]; simp [aput],
   hsame 29 _ (by omega) (by omega),
   fun h => by rw [get_put (by omega), if_neg (by omega)]; exact hI.t23 (by simpa using h),
   fun h => by rw [get_put (by omega), if_neg (by omega)]; exact hI.t25 (by simpa using h),
   fun h => by rw [get_put (by omega), if_neg (by omega)]; exact hI.t27 (by simpa using h),
   hI.nd,
   fun k => (hI.mem k).trans ⟨fun ⟨h1, h2⟩ => ⟨h1, by simp [h2]⟩, fun ⟨h1, h2⟩ => ⟨h1, by rcases h1 with rfl | rfl | rfl <;> simpa using h2⟩⟩,
   fun h => by rw [get_put (by omega), if_neg (by omega)]; exact hI.t24 (by simpa using h),
   fun h => by rw [get_put (by omega), if_neg (by omega)]; exact hI.t26 (by simpa using h),
   fun h => by rw [get_put (by omega), if_neg (by omega)]; exact hI.t28 (by simpa using h),
   fun _ => ⟨by simp [hneed 1 (by decide)], by simp [hneed 3 (by decide)], by simp [hneed 5 (by decide)]⟩,
   fun h => by have := hI.m7 (by simpa using h); simp [this],
   fun h => by have := hI.m8 (by simpa using h); simp [this],
   fun _ => by rw [get_put (by omega), if_pos rfl],
   fun h => by rw [get_put (by omega), if_neg (by omega)]; exact hI.t30 (by simpa using h),
   fun h => by rw [get_put (by omega), if_neg (by omega)]; exact hI.t5 (by simpa using h),
   by rw [hI.sto]; simp⟩
 | 7, _, hco, hneed, hS =>
  simp only [r4cores, List.getElem?_cons_zero, List.getElem?_cons_succ, Option.some.injEq, core, Prod.mk.injEq] at hco
  obtain ⟨rfl, rfl, rfl⟩ := hco
  have h6 := hI.m6 (hneed 6 (by decide))
  have hpl : p.length = 3 := by
   rcases perm3 hI.nd (fun k => (hI.mem k).trans ⟨fun h => h.1, fun h => ⟨h, by rcases h with rfl | rfl | rfl; exact h6.1; exact h6.2.1; exact h6.2.2⟩⟩) with rfl | rfl | rfl | rfl | rfl | rfl <;> rfl
  have hlen3 : σ.length = σ0.length + 3 := by rw [hI.sto, if_neg (by rw [hS]; simp)]; simp [hpl]
  refine ARun.one rfl (v := .ref (σ0.length + 3) 0) (σ' := σ ++ [.cells (r4t f σ0.length n p)]) ?_ rfl ⟨p, ?_⟩
  ·have k6 := hI.t29 (hneed 6 (by decide))
   simp only [aop, opnd, List.getD_eq_getElem?_getD, k6, Option.getD_some, hlen3]
   simp only [go_sem, one_row, r4t, hlen3]
  ·exact ⟨by rw [← hI.len]; simp [aput],
   hsame 30 _ (by omega) (by omega),
   fun h => by rw [get_put (by omega), if_neg (by omega)]; exact hI.t23 (by simpa using h),
   fun h => by rw [get_put (by omega), if_neg (by omega)]; exact hI.t25 (by simpa using h),
   fun h => by rw [get_put (by omega), if_neg (by omega)]; exact hI.t27 (by simpa using h),
   hI.nd,
   fun k => (hI.mem k).trans ⟨fun ⟨h1, h2⟩ => ⟨h1, by simp [h2]⟩, fun ⟨h1, h2⟩ => ⟨h1, by rcases h1 with rfl | rfl | rfl <;> simpa using h2⟩⟩,
   fun h => by rw [get_put (by omega), if_neg (by omega)]; exact hI.t24 (by simpa using h),
   fun h => by rw [get_put (by omega), if_neg (by omega)]; exact hI.t26 (by simpa using h),
   fun h => by rw [get_put (by omega), if_neg (by omega)]; exact hI.t28 (by simpa using h),
   fun h => by obtain ⟨a, b, c⟩ := hI.m6 (by simpa using h); exact ⟨by simp [a], by simp [b], by simp [c]⟩,
   fun _ => by simp [hneed 6 (by decide)],
   fun h => by have := hI.m8 (by simpa using h); simp [this],
   fun h => by rw [get_put (by omega), if_neg (by omega)]; exact hI.t29 (by simpa using h),
   fun _ => by rw [get_put (by omega), if_pos rfl],
   fun h => by rw [get_put (by omega), if_neg (by omega)]; exact hI.t5 (by simpa using h),
   by rw [hI.sto, if_neg (by rw [hS]; simp), if_pos (by simp)]; simp⟩
 | 8, _, hco, hneed, hS =>
  simp only [r4cores, List.getElem?_cons_zero, List.getElem?_cons_succ, Option.some.injEq, core, Prod.mk.injEq] at hco
  obtain ⟨rfl, rfl, rfl⟩ := hco
  refine ARun.one rfl (v := .ref (σ0.length + 3) 0) (σ' := σ) ?_ rfl ⟨p, ?_⟩
  ·have k7 := hI.t30 (hneed 7 (by decide))
   simp [aop, opnd, List.getD_eq_getElem?_getD, k7]
  ·exact ⟨by rw [← hI.len]; simp [aput],
   fun j h5 hj => by rw [get_put (by omega), if_neg h5]; exact hI.same j h5 hj,
   fun h => by rw [get_put (by omega), if_neg (by omega)]; exact hI.t23 (by simpa using h),
   fun h => by rw [get_put (by omega), if_neg (by omega)]; exact hI.t25 (by simpa using h),
   fun h => by rw [get_put (by omega), if_neg (by omega)]; exact hI.t27 (by simpa using h),
   hI.nd,
   fun k => (hI.mem k).trans ⟨fun ⟨h1, h2⟩ => ⟨h1, by simp [h2]⟩, fun ⟨h1, h2⟩ => ⟨h1, by rcases h1 with rfl | rfl | rfl <;> simpa using h2⟩⟩,
   fun h => by rw [get_put (by omega), if_neg (by omega)]; exact hI.t24 (by simpa using h),
   fun h => by rw [get_put (by omega), if_neg (by omega)]; exact hI.t26 (by simpa using h),
   fun h => by rw [get_put (by omega), if_neg (by omega)]; exact hI.t28 (by simpa using h),
   fun h => by obtain ⟨a, b, c⟩ := hI.m6 (by simpa using h); exact ⟨by simp [a], by simp [b], by simp [c]⟩,
   fun h => by have := hI.m7 (by simpa using h); simp [this],
   fun _ => by simp [hneed 7 (by decide)],
   fun h => by rw [get_put (by omega), if_neg (by omega)]; exact hI.t29 (by simpa using h),
   fun h => by rw [get_put (by omega), if_neg (by omega)]; exact hI.t30 (by simpa using h),
   fun _ => by rw [get_put (by omega), if_pos rfl],
   by rw [hI.sto]; simp⟩
 | k + 9, hx, _, _, _ => exact absurd hx (by omega)
theorem renL_bel (o p n : Nat) (h : n ≤ o) : (∀ c : AV, c.bel n = true → c.ren o p = c) ∧ ∀ l : List AV, belL n l = true → renL o p l = l := by
 have main : ∀ (k : Nat), (∀ c : AV, SizeOf.sizeOf c < k → c.bel n = true → c.ren o p = c) ∧ ∀ l : List AV, SizeOf.sizeOf l < k → belL n l = true → renL o p l = l := by
  intro k
  induction k with
  | zero => exact ⟨fun _ h => absurd h (Nat.not_lt_zero _), fun _ h => absurd h (Nat.not_lt_zero _)⟩
  | succ k ih =>
   refine ⟨fun c hc hb => ?_, fun l hl hb => ?_⟩
   ·cases c with
    | any => rfl
    | val v => rfl
    | nilsl => rfl
    | agg cs => simp only [AV.ren]; rw [ih.2 cs (by simp at hc; omega) (by simpa [AV.bel] using hb)]
    | tup cs => simp only [AV.ren]; rw [ih.2 cs (by simp at hc; omega) (by simpa [AV.bel] using hb)]
    | sl z cs => simp only [AV.ren]; rw [ih.2 cs (by simp at hc; omega) (by simpa [AV.bel] using hb)]
    | slf z cs => simp only [AV.ren]; rw [ih.2 cs (by simp at hc; omega) (by simpa [AV.bel] using hb)]
    | slo nl z cs q => simp only [AV.ren]; rw [ih.2 cs (by simp at hc; omega) (by simp [AV.bel] at hb; exact hb.2)]
    | er cs => simp only [AV.ren]; rw [ih.2 cs (by simp at hc; omega) (by simpa [AV.bel] using hb)]
    | fn f cs => simp only [AV.ren]; rw [ih.2 cs (by simp at hc; omega) (by simpa [AV.bel] using hb)]
    | mapf ks cs => simp only [AV.ren]; rw [ih.2 cs (by simp at hc; omega) (by simpa [AV.bel] using hb)]
    | ifc t v => simp only [AV.ren]; rw [ih.1 v (by simp at hc; omega) (by simpa [AV.bel] using hb)]
    | ref q off => simp [AV.bel] at hb; simp only [AV.ren, rn]; rw [if_neg (by omega)]
    | osl q off l z => simp [AV.bel] at hb; simp only [AV.ren, rn]; rw [if_neg (by omega)]
    | mapo q => simp [AV.bel] at hb; simp only [AV.ren, rn]; rw [if_neg (by omega)]
    | yl q => simp [AV.bel] at hb; simp only [AV.ren, rn]; rw [if_neg (by omega)]
   ·cases l with
    | nil => rfl
    | cons c l =>
     simp only [belL, Bool.and_eq_true] at hb
     simp only [renL]
     rw [ih.1 c (by simp at hl; omega) hb.1, ih.2 l (by simp at hl; omega) hb.2]
 exact ⟨fun c hc => (main (SizeOf.sizeOf c + 1)).1 c (Nat.lt_succ_self _) hc, fun l hl => (main (SizeOf.sizeOf l + 1)).2 l (Nat.lt_succ_self _) hl⟩
theorem renL_set (o p : Nat) (v : AV) : ∀ (l : List AV) (i : Nat), renL o p (l.set i v) = (renL o p l).set i (v.ren o p)
 | [], _ => rfl
 | c :: l, 0 => rfl
 | c :: l, i + 1 => by simp only [List.set_cons_succ, renL, renL_set o p v l i]
/-- The types, empty, where they come to lie. -/
def r4sto (f : FileM) (σ0 : Sto) (n : Nat) : Sto := σ0 ++ [.dead, .dead, .dead, .cells [rowAV 4 f.nl (f.ds.map Dgm.enc), .mapo (σ0.length + 4), .osl (σ0.length + 5) 0 n 1, .osl (σ0.length + 6) 0 n 1, .nilsl], .map [] [], .cells (List.replicate n (.val (.map none))), .cells (List.replicate n .nilsl)]
theorem row_ren (f : FileM) (o p : Nat) : (rowAV 4 f.nl (f.ds.map Dgm.enc)).ren o p = rowAV 4 f.nl (f.ds.map Dgm.enc) := (renL_bel o p 0 (Nat.zero_le _)).1 _ (row_bel dgm_bel _ _ _ _)
theorem rep_ren (o p n : Nat) (v : AV) (h : v.ren o p = v) : renL o p (List.replicate n v) = List.replicate n v := by
 rw [renL_map, List.map_replicate, h]
theorem mv1 {F : Fr} {e : Env} {σ0 : Sto} {y : Code} {Q : Exit → Env → Sto → Prop} (hbe : belL σ0.length e = true) (i : Nat) {L : Sto} {a : AO} (hi : L[i]? = some a) (h1 : a.isCap = false) (h2 : a ≠ .dfr) (hi3 : i ≠ 3)
  (h : AW F prog Γ y (e.set 5 (.ref (σ0.length + 3) 0)) (σ0 ++ ((L.set i .dead).map (AO.ren (σ0.length + i) (σ0.length + L.length)) ++ [a.ren (σ0.length + i) (σ0.length + L.length)])) Q) : AW F prog Γ y (e.set 5 (.ref (σ0.length + 3) 0)) (σ0 ++ L) Q := by
 refine AW.move σ0.length (σ0.length + i) (a := a) (by rw [app_get]; exact hi) h1 h2 ?_
 rw [renL_set, (renL_bel _ _ σ0.length (Nat.le_add_right _ _)).2 e hbe, app_set, renFrom_app, List.length_append, List.append_assoc]
 have : (AV.ref (σ0.length + 3) 0).ren (σ0.length + i) (σ0.length + L.length) = .ref (σ0.length + 3) 0 := by
  simp only [AV.ren, rn]
  rw [if_neg (by omega)]
 rw [this]
 exact h
set_option maxHeartbeats 2000000 in
theorem r4_move {F : Fr} {f : FileM} {e : Env} {σ0 : Sto} {n : Nat} {y : Code} {Q : Exit → Env → Sto → Prop} (hbe : belL σ0.length e = true) {p : List Nat} (hp : p = [1, 3, 5] ∨ p = [1, 5, 3] ∨ p = [3, 1, 5] ∨ p = [3, 5, 1] ∨ p = [5, 1, 3] ∨ p = [5, 3, 1]) (k : AW F prog Γ y (e.set 5 (.ref (σ0.length + 3) 0)) (r4sto f σ0 n) Q) :
  AW F prog Γ y (e.set 5 (.ref (σ0.length + 3) 0)) (σ0 ++ (p.map (r4obj n) ++ [.cells (r4t f σ0.length n p)])) Q := by
 have hr1 : ∀ o q, renL o q (List.replicate n (.val (.map none))) = List.replicate n (.val (.map none)) := fun o q => rep_ren o q n _ rfl
 have hr2 : ∀ o q, renL o q (List.replicate n .nilsl) = List.replicate n .nilsl := fun o q => rep_ren o q n _ rfl
 unfold r4sto at k
 rcases hp with rfl | rfl | rfl | rfl | rfl | rfl
 ·refine mv1 hbe 0 (a := .map [] []) (by simp [r4obj]) rfl (by simp) (by decide) ?_
  simp [r4obj, r4t, AO.ren, renL, row_ren, AV.ren, rn, hr1, hr2, List.idxOf_cons]
  refine mv1 hbe 1 (a := .cells (List.replicate n (.val (.map none)))) (by simp [r4obj]) rfl (by simp) (by decide) ?_
  simp [r4obj, r4t, AO.ren, renL, row_ren, AV.ren, rn, hr1, hr2, List.idxOf_cons]
  refine mv1 hbe 2 (a := .cells (List.replicate n .nilsl)) (by simp [r4obj]) rfl (by simp) (by decide) ?_
  simp [r4obj, r4t, AO.ren, renL, row_ren, AV.ren, rn, hr1, hr2, List.idxOf_cons]
  exact k
 ·refine mv1 hbe 0 (a := .map [] []) (by simp [r4obj]) rfl (by simp) (by decide) ?_
  simp [r4obj, r4t, AO.ren, renL, row_ren, AV.ren, rn, hr1, hr2, List.idxOf_cons]
  refine mv1 hbe 2 (a := .cells (List.replicate n (.val (.map none)))) (by simp [r4obj]) rfl (by simp) (by decide) ?_
  simp [r4obj, r4t, AO.ren, renL, row_ren, AV.ren, rn, hr1, hr2, List.idxOf_cons]
  refine mv1 hbe 1 (a := .cells (List.replicate n .nilsl)) (by simp [r4obj]) rfl (by simp) (by decide) ?_
  simp [r4obj, r4t, AO.ren, renL, row_ren, AV.ren, rn, hr1, hr2, List.idxOf_cons]
  exact k
 ·refine mv1 hbe 1 (a := .map [] []) (by simp [r4obj]) rfl (by simp) (by decide) ?_
  simp [r4obj, r4t, AO.ren, renL, row_ren, AV.ren, rn, hr1, hr2, List.idxOf_cons]
  refine mv1 hbe 0 (a := .cells (List.replicate n (.val (.map none)))) (by simp [r4obj]) rfl (by simp) (by decide) ?_
  simp [r4obj, r4t, AO.ren, renL, row_ren, AV.ren, rn, hr1, hr2, List.idxOf_cons]
  refine mv1 hbe 2 (a := .cells (List.replicate n .nilsl)) (by simp [r4obj]) rfl (by simp) (by decide) ?_
  simp [r4obj, r4t, AO.ren, renL, row_ren, AV.ren, rn, hr1, hr2, List.idxOf_cons]
  exact k
 ·refine mv1 hbe 2 (a := .map [] []) (by simp [r4obj]) rfl (by simp) (by decide) ?_
  simp [r4obj, r4t, AO.ren, renL, row_ren, AV.ren, rn, hr1, hr2, List.idxOf_cons]
  refine mv1 hbe 0 (a := .cells (List.replicate n (.val (.map none)))) (by simp [r4obj]) rfl (by simp) (by decide) ?_
  simp [r4obj, r4t, AO.ren, renL, row_ren, AV.ren, rn, hr1, hr2, List.idxOf_cons]
  refine mv1 hbe 1 (a := .cells (List.replicate n .nilsl)) (by simp [r4obj]) rfl (by simp) (by decide) ?_
  simp [r4obj, r4t, AO.ren, renL, row_ren, AV.ren, rn, hr1, hr2, List.idxOf_cons]
  exact k
 ·refine mv1 hbe 1 (a := .map [] []) (by simp [r4obj]) rfl (by simp) (by decide) ?_
  simp [r4obj, r4t, AO.ren, renL, row_ren, AV.ren, rn, hr1, hr2, List.idxOf_cons]
  refine mv1 hbe 2 (a := .cells (List.replicate n (.val (.map none)))) (by simp [r4obj]) rfl (by simp) (by decide) ?_
  simp [r4obj, r4t, AO.ren, renL, row_ren, AV.ren, rn, hr1, hr2, List.idxOf_cons]
  refine mv1 hbe 0 (a := .cells (List.replicate n .nilsl)) (by simp [r4obj]) rfl (by simp) (by decide) ?_
  simp [r4obj, r4t, AO.ren, renL, row_ren, AV.ren, rn, hr1, hr2, List.idxOf_cons]
  exact k
 ·refine mv1 hbe 2 (a := .map [] []) (by simp [r4obj]) rfl (by simp) (by decide) ?_
  simp [r4obj, r4t, AO.ren, renL, row_ren, AV.ren, rn, hr1, hr2, List.idxOf_cons]
  refine mv1 hbe 1 (a := .cells (List.replicate n (.val (.map none)))) (by simp [r4obj]) rfl (by simp) (by decide) ?_
  simp [r4obj, r4t, AO.ren, renL, row_ren, AV.ren, rn, hr1, hr2, List.idxOf_cons]
  refine mv1 hbe 0 (a := .cells (List.replicate n .nilsl)) (by simp [r4obj]) rfl (by simp) (by decide) ?_
  simp [r4obj, r4t, AO.ren, renL, row_ren, AV.ren, rn, hr1, hr2, List.idxOf_cons]
  exact k
theorem AW.r4 {F : Fr} (hm : prog.follows .mixedOrders = true) {f : FileM} {e : Env} {σ0 : Sto} {n : Nat} (hn : n ≤ 2000) (he : e.length = 115) {o1 : Nat} (h1 : e[1]? = some (.ref o1 0)) (h4 : e[4]? = some (i64 ((n : Nat) : Int))) (hf : σ0[o1]? = some (.cells f.enc.cells)) (hany : ∀ j, 23 ≤ j → j ≤ 30 → e[j]? = some .any) (hbe : belL σ0.length e = true) {id : Nat} {l : List Oper} (hc : l.map core = r4cores) (hw : fwdB l = true) (hnd : needB l = true) {y : Code} {Q : Exit → Env → Sto → Prop}
  (k : AW F prog Γ y (e.set 5 (.ref (σ0.length + 3) 0)) (r4sto f σ0 n) Q) : AW F prog Γ (.seq (.region id l.toArray true) y) e σ0 Q := by
 refine AW.seq (AW.draw hm (ADraw.any false (fun S env σ => ∃ p, R4 f e σ0 n S p env σ) hw ⟨[], ?_⟩ (fun S x o ho hS hE env σ hI => r4_step hn he h1 h4 hf hc hnd S x o ho hS hE env σ hI) ?_))
 ·exact ⟨rfl, fun _ _ _ => rfl, (fun h => by cases h), (fun h => by cases h), (fun h => by cases h), List.nodup_nil, fun k => by simp, (fun h => by cases h), (fun h => by cases h), (fun h => by cases h), (fun h => by cases h), (fun h => by cases h), (fun h => by cases h), (fun h => by cases h), (fun h => by cases h), (fun h => by cases h), by simp⟩
 ·rintro S env σ hS ⟨p, hI⟩
  have hl : l.length = 9 := by
   have := congrArg List.length hc
   simpa [r4cores] using this
  have hall : ∀ j, j < 9 → S j = true := fun j hj => hS j (by omega)
  have hp := perm3 hI.nd (fun k => (hI.mem k).trans ⟨fun h => h.1, fun h => ⟨h, hall k (by omega)⟩⟩)
  refine AW.weaken (env' := e.set 5 (.ref (σ0.length + 3) 0)) (wk_of (by rw [hI.len]; simp) fun j => ?_) ?_
  ·by_cases h5 : j = 5
   ·subst h5
    right
    rw [List.getD_eq_getElem?_getD, List.getD_eq_getElem?_getD, hI.t5 (hall 8 (by omega)), List.getElem?_set_self (by omega)]
   ·rw [List.getD_eq_getElem?_getD, List.getD_eq_getElem?_getD, List.getElem?_set_ne (fun h => h5 h.symm)]
    by_cases hj : 23 ≤ j ∧ j ≤ 30
    ·left
     rw [hany j hj.1 hj.2]
     rfl
    ·right
     rw [hI.same j h5 (by omega)]
  ·rw [hI.sto, if_pos (hall 7 (by omega))]
   exact r4_move hbe hp k
end Fl
end Go.Proofs.Tryd
/-! Flow: function 28. -/
namespace Go.Proofs.Tryd
set_option linter.unusedSimpArgs false
set_option linter.unusedVariables false
open Go Go.Proofs.Ev
namespace Fl
variable {Γ : List (Nat × List AV)} {w : AV} {G : List (Nat × List AV)}
attribute [local go_sem] true_and List.length_map len_row one_row List.drop_zero blk_len dgm_len port_len out_len src_len file_len src_get port_get out_get blk_get dgm_get file_get dgm_all blk_all src_all port_all out_all file_all sm_len sm_geta sm_geta0 sm_seta sm_seta0 sms_geta sms_geta0
set_option maxRecDepth 100000 in
set_option maxHeartbeats 1000000 in
theorem diagram_calls' (hΓ : A.Words (GK w G)) {σ : Sto} {ot on oty oo om i n : Nat} {rest tys ords : List AV} (f : FileM) (hT : TyAt σ ot oty om i n (rowAV 4 f.nl (f.ds.map Dgm.enc)) (.mapo on) (.osl oo 0 n 1 :: rest) tys) (N : List (ByteArray × Nat)) (hon : σ[on]? = some (mapN N)) (hoo : σ[oo]? = some (.cells ords)) (n3 : om ≠ oo) (n4 : om ≠ on) (n5 : oo ≠ ot) (n6 : oo ≠ oty) (hol : ords.length = n) (hob : ∀ m, belL m ords = true) (d : Dgm) (hfd : f.ds[i]? = some d) (hf : f.ds.length ≤ 2000) (hsz : ∀ d ∈ f.ds, SzD d) (hg : GoodD f d) (hN : lookN N d.name = findD f.ds d.name) : ACalls prog (GK w G) 28 [.ref ot 0, i64 ((i : Nat) : Int)] (sm σ om []) (fun v σ' => v = i64 (diaC f i d) ∧ (∃ cs M, σ' = sm (σ.set oo (.cells cs)) om M) ∧ (diaC f i d = 0 → ∃ M o, ord (lmat (hangL d)) d.blocks.length = some o ∧ σ' = sm (σ.set oo (.cells (ords.set i (rowN o)))) om M ∧ walkM f d (startM d []) o = some M ∧ typedB f d o = true)) := by
 refine ACalls.ofT func28 rfl ?_
 simp only [ntmps28, List.length_cons, List.length_nil, Nat.reduceAdd, Nat.reduceSub, List.replicate_succ, List.replicate_zero, List.cons_append, List.nil_append]
 have g1 := fun (M : MapM) (l : Sto) => sm_ne (M := M) hT.t hT.n1 l
 have g2 := fun (M : MapM) (l : Sto) => sm_ne (M := M) hT.ty hT.n2 l
 have g3 := fun (M : MapM) (l : Sto) => sm_at hT.m M l
 have hat := at_osl (o := oty) (k := .i64) hT.lt
 have hdr := dr_at hT.at_
 have hot := hT.ot_lt
 have g4 := fun (M : MapM) (l : Sto) => sm_ne (M := M) hoo n3 l
 have gN := fun (M : MapM) (l : Sto) => sm_ne (M := M) hon n4 l
 have hat2 := at_osl (o := oo) (k := .i64) hT.lt
 have hoil : i < ords.length := by rw [hol]; exact hT.lt
 have hool : oo < σ.length := (List.getElem?_eq_some_iff.1 hoo).1
 have hx : (f.ds.map Dgm.enc)[i]? = some d.enc := by simp [hfd]
 have hdm := List.mem_of_getElem? hfd
 have hz := hsz d hdm
 have hlB : d.blocks.length ≤ maxLen := by rw [maxLen_eq]; have := hz.blocks; omega
 have hsc := sorted2 (Γ := GK w G) d hz hg.inB
 unfold ordV at hsc
 obtain ⟨O, hO⟩ : ∃ z, z = ord (lmat (hangL d)) d.blocks.length := ⟨_, rfl⟩
 rw [← hO] at hsc ⊢
 refine AW.regl false [2, 4] (by rfl) fun K1 hK1 => ?_
 simp only [go_sem, Nat.reduceAdd, Nat.reduceEqDiff, Nat.reduceLeDiff, g1, g2, hat, hdr, g4]
 refine hK1 _ _ ?_
 conv => enter [5]; simp only [sl1, sl0, sz0, sz1]
 refine AW.regl false [5] (by rfl) fun K2 hK2 => ?_
 simp only [go_sem, Nat.reduceAdd, Nat.reduceEqDiff, Nat.reduceLeDiff, g1, g2, hat, hdr, g4, at_row hx]
 refine hK2 _ _ ?_
 conv => enter [5]; simp only [sl1, sl0, sz0, sz1, upd_none, upd_at]
 refine AW.regl false [6] (by rfl) fun K3 hK3 => ?_
 simp only [go_sem, Nat.reduceAdd, Nat.reduceEqDiff, Nat.reduceLeDiff, g1, g2, hat, hdr, g4]
 refine hK3 _ _ ?_
 conv => enter [5]; simp only [sl1, sl0, sz0, sz1]
 refine AW.seq_k fun K4 hK4 => ?_
 refine AW.block ?_
 refine AW.regl false [18] (by rfl) fun K5 hK5 => ?_
 simp only [go_sem, Nat.reduceAdd, Nat.reduceEqDiff, Nat.reduceLeDiff, g1, g2, hat, hdr, g4]
 refine sC.of en49 (named_calls hΓ f d i hfd hz.ins hz.outs hg.nm N hN (g1 _ _) (gN _ _)).here (by rfl) ?_
 simp only [go_sem, Nat.reduceAdd, Nat.reduceEqDiff, Nat.reduceLeDiff, g1, g2, hat, hdr, g4]
 refine hK5 _ _ ?_
 conv => enter [5]; simp only [sl1, sl0, sz0, sz1]
 refine AW.cond rfl (fun hc18 => ?_) (fun hc18 => ?_)
 ·skip
  have hN1 : namesM f i d = false := by simpa using hc18
  refine AW.regl false [4] (by rfl) fun K6 hK6 => ?_
  simp only [go_sem, Nat.reduceAdd, Nat.reduceEqDiff, Nat.reduceLeDiff, g1, g2, hat, hdr, g4]
  refine hK6 _ _ ?_
  conv => enter [5]; simp only [sl1, sl0, sz0, sz1]
  have hdia : diaC f i d = 6 := by
   unfold diaC
   rw [if_pos hN1]
  exact AW.ret ⟨.inr rfl, _, rfl, sm σ om [], _, rfl, rfl, fun _ _ h => .inl h, rfl, by rw [hdia], ⟨ords, [], by rw [set_self hoo]⟩, fun h => by rw [hdia] at h; exact absurd h (by decide)⟩
 ·skip
  have hN1 : ¬ namesM f i d = false := by simpa using hc18
  refine AW.regl false [24] (by rfl) fun K7 hK7 => ?_
  simp only [go_sem, Nat.reduceAdd, Nat.reduceEqDiff, Nat.reduceLeDiff, g1, g2, hat, hdr, g4, Dgm.enc]
  refine hK7 _ _ ?_
  conv => enter [5]; simp only [sl1, sl0, sz0, sz1]
  refine AW.cond rfl (fun hc24 => ?_) (fun hc24 => ?_)
  ·skip
   have hO1 : d.outs.length = 0 := by simp at hc24; simp [hc24]
   refine AW.regl false [4] (by rfl) fun K8 hK8 => ?_
   simp only [go_sem, Nat.reduceAdd, Nat.reduceEqDiff, Nat.reduceLeDiff, g1, g2, hat, hdr, g4]
   refine hK8 _ _ ?_
   conv => enter [5]; simp only [sl1, sl0, sz0, sz1]
   have hdia : diaC f i d = 10 := by
    unfold diaC
    rw [if_neg hN1, if_pos hO1]
   exact AW.ret ⟨.inr rfl, _, rfl, sm σ om [], _, rfl, rfl, fun _ _ h => .inl h, rfl, by rw [hdia], ⟨ords, [], by rw [set_self hoo]⟩, fun h => by rw [hdia] at h; exact absurd h (by decide)⟩
  ·skip
   have hO1 : ¬ d.outs.length = 0 := by simp at hc24; simp [hc24]
   refine AW.regl false [29] (by rfl) fun K9 hK9 => ?_
   simp only [go_sem, Nat.reduceAdd, Nat.reduceEqDiff, Nat.reduceLeDiff, g1, g2, hat, hdr, g4]
   refine sC.of en50 (ranged_calls f _ d hf (fun e he => (hsz e he).outs) hz.outs hz.blocks (g1 _ _)).here (by rfl) ?_
   simp only [go_sem, Nat.reduceAdd, Nat.reduceEqDiff, Nat.reduceLeDiff, g1, g2, hat, hdr, g4]
   refine hK9 _ _ ?_
   conv => enter [5]; simp only [sl1, sl0, sz0, sz1]
   refine AW.cond rfl (fun hc29 => ?_) (fun hc29 => ?_)
   ·skip
    have hR : rngB f d = false := by simpa using hc29
    refine AW.regl false [4] (by rfl) fun K10 hK10 => ?_
    simp only [go_sem, Nat.reduceAdd, Nat.reduceEqDiff, Nat.reduceLeDiff, g1, g2, hat, hdr, g4]
    refine hK10 _ _ ?_
    conv => enter [5]; simp only [sl1, sl0, sz0, sz1]
    have hdia : diaC f i d = 4 := by
     unfold diaC
     rw [if_neg hN1, if_neg hO1, if_pos hR]
    exact AW.ret ⟨.inr rfl, _, rfl, sm σ om [], _, rfl, rfl, fun _ _ h => .inl h, rfl, by rw [hdia], ⟨ords, [], by rw [set_self hoo]⟩, fun h => by rw [hdia] at h; exact absurd h (by decide)⟩
   ·skip
    have hR : ¬ rngB f d = false := by simpa using hc29
    refine AW.regl false [34] (by rfl) fun K11 hK11 => ?_
    simp only [go_sem, Nat.reduceAdd, Nat.reduceEqDiff, Nat.reduceLeDiff, g1, g2, hat, hdr, g4, Dgm.enc]
    refine sC.of en51 (containsFunc51 Blk.enc blk_get d.nlB d.blocks hlB 48 en48 [.ref σ.length 0] (arB f) _ (fun b hb => arity_fn f _ b (fun h7 => (hg.wf b hb).sub h7) ((sm_geta0 σ om _ _).trans rfl) (g1 _ _))).here (by rfl) ?_
    simp only [go_sem, Nat.reduceAdd, Nat.reduceEqDiff, Nat.reduceLeDiff, g1, g2, hat, hdr, g4, Dgm.enc]
    refine hK11 _ _ ?_
    conv => enter [5]; simp only [sl1, sl0, sz0, sz1]
    refine AW.cond rfl (fun hc34 => ?_) (fun hc34 => ?_)
    ·skip
     have hA : d.blocks.any (arB f) = true := hc34
     refine AW.regl false [4] (by rfl) fun K12 hK12 => ?_
     simp only [go_sem, Nat.reduceAdd, Nat.reduceEqDiff, Nat.reduceLeDiff, g1, g2, hat, hdr, g4]
     refine hK12 _ _ ?_
     conv => enter [5]; simp only [sl1, sl0, sz0, sz1]
     have hdia : diaC f i d = 8 := by
      unfold diaC
      rw [if_neg hN1, if_neg hO1, if_neg hR, if_pos hA]
     exact AW.ret ⟨.inr rfl, _, rfl, sm σ om [], _, rfl, rfl, fun _ _ h => .inl h, rfl, by rw [hdia], ⟨ords, [], by rw [set_self hoo]⟩, fun h => by rw [hdia] at h; exact absurd h (by decide)⟩
    ·skip
     have hA : ¬ d.blocks.any (arB f) = true := ne_true_of_eq_false hc34
     have hAr : ∀ b ∈ d.blocks, b.kind = 7 → (insT f b).length = b.src.length := fun b hb h7 => by
      have := List.any_eq_false.1 hc34 b hb
      simp [arB, h7] at this
      exact this.symm
     refine AW.skip ?_
     refine hK4 _ _ ?_
     refine AW.regl false [7, 8] (by rfl) fun K13 hK13 => ?_
     simp only [go_sem, Nat.reduceAdd, Nat.reduceEqDiff, Nat.reduceLeDiff, g1, g2, hat, hdr, g4]
     refine sC.of en52 ((hangs_calls d hz.blocks hz.src).on _).here (by rfl) ?_
     simp only [go_sem, Nat.reduceAdd, Nat.reduceEqDiff, Nat.reduceLeDiff, g1, g2, hat, hdr, g4]
     refine sC.of en29 (hsc.on _).here (by rfl) ?_
     simp only [go_sem, Nat.reduceAdd, Nat.reduceEqDiff, Nat.reduceLeDiff, g1, g2, hat, hdr, g4]
     refine hK13 _ _ ?_
     conv => enter [5]; simp only [sl1, sl0, sz0, sz1]
     refine AW.seq_k fun K14 hK14 => ?_
     refine AW.regl false [46] (by rfl) fun K15 hK15 => ?_
     simp only [go_sem, Nat.reduceAdd, Nat.reduceEqDiff, Nat.reduceLeDiff, g1, g2, hat, hdr, g4]
     refine hK15 _ _ ?_
     conv => enter [5]; simp only [sl1, sl0, sz0, sz1]
     refine AW.cond rfl (fun hc46 => ?_) (fun hc46 => ?_)
     ·skip
      have hOn : O = none := by cases h : O with | none => rfl | some o => rw [h] at hc46; simp at hc46
      refine AW.regl false [4] (by rfl) fun K16 hK16 => ?_
      simp only [go_sem, Nat.reduceAdd, Nat.reduceEqDiff, Nat.reduceLeDiff, g1, g2, hat, hdr, g4]
      refine hK16 _ _ ?_
      conv => enter [5]; simp only [sl1, sl0, sz0, sz1]
      have hdia : diaC f i d = 9 := by
       unfold diaC
       rw [if_neg hN1, if_neg hO1, if_neg hR, if_neg hA, ← hO, hOn]
      exact AW.ret ⟨.inr rfl, _, rfl, sm σ om [], _, rfl, rfl, fun _ _ h => .inl h, rfl, by rw [hdia], ⟨ords, [], by rw [set_self hoo]⟩, fun h => by rw [hdia] at h; exact absurd h (by decide)⟩
     ·skip
      obtain ⟨o, hOo⟩ : ∃ o, O = some o := by
       cases h : O with
       | none => rw [h] at hc46; simp at hc46
       | some o => exact ⟨o, rfl⟩
      obtain ⟨hol1, hol2, _, _⟩ := ord_ok (hO.symm.trans hOo)
      rw [show (O.getD []) = o by rw [hOo]; rfl]
      have hszo : i + 1 ≤ ords.length := hoil
      have hspo := spl_gen hoil (rowAV 1 true (o.map natA))
      refine AW.skip ?_
      refine hK14 _ _ ?_
      refine AW.regl false [] (by rfl) fun K17 hK17 => ?_
      simp only [go_sem, Nat.reduceAdd, Nat.reduceEqDiff, Nat.reduceLeDiff, g1, g2, hat, hdr, g4, hat2, if_pos hszo, hspo, sm_set_ne [] hool n3]
      refine hK17 _ _ ?_
      conv => enter [5]; simp only [sl1, sl0, sz0, sz1, upd_none, upd_at]
      refine AW.seq_k fun K18 hK18 => ?_
      refine AW.regl false [58] (by rfl) fun K19 hK19 => ?_
      simp only [go_sem, Nat.reduceAdd, Nat.reduceEqDiff, Nat.reduceLeDiff, g1, g2, hat, hdr, g4]
      refine sC.ofR en53 (typed_at (w := w) (G := G) f (hT.set (.cells (ords.set i (rowAV 1 true (o.map natA)))) n5 n6) (List.getElem?_set_self hool) n3 d o (by rw [List.getElem?_set_self hoil]; rfl) (by rw [hol1]; exact hz.blocks) hol2 hz hg.wf hAr (fun e he => (hsz e he).outs) _) (fun v' σ' hR => ?_)
      obtain ⟨M, rfl, rfl, hwM⟩ := hR
      simp only [go_sem, Nat.reduceAdd, Nat.reduceEqDiff, Nat.reduceLeDiff, g1, g2, hat, hdr, g4]
      refine hK19 _ _ ?_
      conv => enter [5]; simp only [sl1, sl0, sz0, sz1]
      refine AW.cond rfl (fun hc58 => ?_) (fun hc58 => ?_)
      ·skip
       have hTy : typedB f d o = false := by simpa using hc58
       refine AW.regl false [4] (by rfl) fun K20 hK20 => ?_
       simp only [go_sem, Nat.reduceAdd, Nat.reduceEqDiff, Nat.reduceLeDiff, g1, g2, hat, hdr, g4]
       refine hK20 _ _ ?_
       conv => enter [5]; simp only [sl1, sl0, sz0, sz1]
       have hdia : diaC f i d = 7 := by
        unfold diaC
        rw [if_neg hN1, if_neg hO1, if_neg hR, if_neg hA, ← hO, hOo]
        simp only []
        rw [if_neg (by rw [hTy]; simp)]
       exact AW.ret ⟨.inr rfl, _, rfl, sm (σ.set oo (.cells (ords.set i (rowAV 1 true (o.map natA))))) om M, _, rfl, by rw [sm_len, sm_len, List.length_set], fun j a h => sm_keep2 (belL_set (row_bel nat_bel _ _ _ _) (hob _)) j a h, rfl, by rw [hdia], ⟨_, _, rfl⟩, fun h => by rw [hdia] at h; exact absurd h (by decide)⟩
      ·skip
       have hTy : typedB f d o = true := by simpa using hc58
       refine AW.skip ?_
       refine hK18 _ _ ?_
       refine AW.regl false [4] (by rfl) fun K21 hK21 => ?_
       simp only [go_sem, Nat.reduceAdd, Nat.reduceEqDiff, Nat.reduceLeDiff, g1, g2, hat, hdr, g4]
       refine hK21 _ _ ?_
       conv => enter [5]; simp only [sl1, sl0, sz0, sz1]
       have hdia : diaC f i d = 0 := by
        unfold diaC
        rw [if_neg hN1, if_neg hO1, if_neg hR, if_neg hA, ← hO, hOo]
        simp only []
        rw [if_pos hTy]
       exact AW.ret ⟨.inr rfl, _, rfl, sm (σ.set oo (.cells (ords.set i (rowAV 1 true (o.map natA))))) om M, _, rfl, by rw [sm_len, sm_len, List.length_set], fun j a h => sm_keep2 (belL_set (row_bel nat_bel _ _ _ _) (hob _)) j a h, rfl, by rw [hdia], ⟨_, _, rfl⟩, fun _ => ⟨M, o, hOo, rfl, hwM hTy, hTy⟩⟩
end Fl
end Go.Proofs.Tryd
/-! Flow: all diagrams. -/
namespace Go.Proofs.Tryd
set_option linter.unusedSimpArgs false
set_option linter.unusedVariables false
open Go Go.Proofs.Ev
namespace Fl
variable {Γ : List (Nat × List AV)} {w : AV} {G : List (Nat × List AV)}
def diaCAt (f : FileM) (i : Nat) : Int := match f.ds[i]? with
 | some d => diaC f i d
 | none => 0
theorem diaCAt_eq {f : FileM} {i : Nat} {d : Dgm} (h : f.ds[i]? = some d) : diaCAt f i = diaC f i d := by simp [diaCAt, h]
/-- What the program says of a file. -/
def chkC (f : FileM) : Int := if f.right = true then (match (List.range f.ds.length).find? (fun i => diaCAt f i != 0) with
 | some i => diaCAt f i
 | none => if (ord (lmat (subsL f)) f.ds.length).isSome = true then 0 else 9) else 11
theorem chkC_at {f : FileM} {i : Nat} (hr : f.right = true) (hi : i < f.ds.length) (h : ∀ j, j < i → diaCAt f j = 0) (hn : ¬ diaCAt f i = 0) : chkC f = diaCAt f i := by
 have : (List.range f.ds.length).find? (fun i => diaCAt f i != 0) = some i := by
  rw [List.find?_range_eq_some]
  refine ⟨by simpa using hn, by simpa using hi, fun j hj => ?_⟩
  simp [h j hj]
 rw [chkC, if_pos hr, this]
theorem chkC_end {f : FileM} (hr : f.right = true) (h : ∀ j, j < f.ds.length → diaCAt f j = 0) : chkC f = if (ord (lmat (subsL f)) f.ds.length).isSome = true then 0 else 9 := by
 have : (List.range f.ds.length).find? (fun i => diaCAt f i != 0) = none := by
  rw [List.find?_eq_none]
  intro j hj
  simp [h j (List.mem_range.1 hj)]
 rw [chkC, if_pos hr, this]
/-- The types while the diagrams' maps are made. -/
structure LA (f : FileM) (σ : Sto) (i k : Nat) (N : List (ByteArray × Nat)) (qs : List Nat) (ρ : Sto) : Prop where
 len : σ.length + 9 ≤ ρ.length
 pre : ∀ j, j < σ.length → ρ[j]? = σ[j]?
 fb : ρ[σ.length]? = some (.cells f.enc.cells)
 t : ρ[σ.length + 4]? = some (.cells [rowAV 4 f.nl (f.ds.map Dgm.enc), .mapo (σ.length + 5), .osl (σ.length + 6) 0 f.ds.length 1, .osl (σ.length + 7) 0 f.ds.length 1, .nilsl])
 nm : ρ[σ.length + 5]? = some (mapN N)
 ns : ∀ s, lookN N s = findD (f.ds.take k) s
 ty : ρ[σ.length + 6]? = some (.cells (qs.map AV.mapo ++ List.replicate (f.ds.length - i) (AV.val (.map none))))
 or : ρ[σ.length + 7]? = some (.cells (List.replicate f.ds.length .nilsl))
 sb : ρ[σ.length + 8]? = some (.cells (gx (subsL f) i))
 ql : qs.length = i
 qn : qs.Nodup
 qa : ∀ q ∈ qs, σ.length + 9 ≤ q ∧ ρ[q]? = some (.map [] [])
theorem subsL_len (f : FileM) : (subsL f).length = f.ds.length := by simp [subsL]
theorem get_set {ρ : Sto} {o j : Nat} {x : AO} (h : o ≠ j) : (ρ.set o x)[j]? = ρ[j]? := List.getElem?_set_ne h
theorem LA.name {f : FileM} {σ ρ : Sto} {i : Nat} {N : List (ByteArray × Nat)} {qs : List Nat} (h : LA f σ i i N qs ρ) {d : Dgm} (hd : f.ds[i]? = some d) (hn : lookN N d.name = none) : LA f σ i (i + 1) (N ++ [(d.name, i)]) qs (ρ.set (σ.length + 5) (mapN (N ++ [(d.name, i)]))) := by
 obtain ⟨hi, hd'⟩ := List.getElem?_eq_some_iff.1 hd
 have hlen := h.len
 refine ⟨by simpa using hlen, fun j hj => by rw [get_set (by omega)]; exact h.pre j hj, by rw [get_set (by omega)]; exact h.fb, by rw [get_set (by omega)]; exact h.t, by rw [List.getElem?_set_self (by omega)], fun s => ?_, by rw [get_set (by omega)]; exact h.ty, by rw [get_set (by omega)]; exact h.or, by rw [get_set (by omega)]; exact h.sb, h.ql, h.qn, fun q hq => ⟨(h.qa q hq).1, by rw [get_set (by have := (h.qa q hq).1; omega)]; exact (h.qa q hq).2⟩⟩
 rw [lookN_app, List.take_succ_eq_append_getElem hi, findD_last, h.ns, hd']
 cases findD (f.ds.take i) s with
 | some j => rfl
 | none =>
  simp only [List.length_take, Nat.min_eq_left (Nat.le_of_lt hi)]
  by_cases e : d.name = s
  ·rw [if_pos e, if_pos e.symm]
  ·rw [if_neg e, if_neg (fun g => e g.symm)]
theorem LA.skip {f : FileM} {σ ρ : Sto} {i : Nat} {N : List (ByteArray × Nat)} {qs : List Nat} (h : LA f σ i i N qs ρ) {d : Dgm} (hd : f.ds[i]? = some d) (hn : ¬ lookN N d.name = none) : LA f σ i (i + 1) N qs ρ := by
 obtain ⟨hi, hd'⟩ := List.getElem?_eq_some_iff.1 hd
 refine ⟨h.len, h.pre, h.fb, h.t, h.nm, fun s => ?_, h.ty, h.or, h.sb, h.ql, h.qn, h.qa⟩
 rw [List.take_succ_eq_append_getElem hi, findD_last, h.ns, hd']
 rw [h.ns] at hn
 cases g : findD (f.ds.take i) s with
 | some j => rfl
 | none =>
  by_cases e : d.name = s
  ·rw [e] at hn
   exact absurd g hn
  ·rw [if_neg e]
theorem LA.done {f : FileM} {σ ρ : Sto} {i : Nat} {N : List (ByteArray × Nat)} {qs : List Nat} (h : LA f σ i (i + 1) N qs ρ) (hi : i < f.ds.length) {x y : AO} : LA f σ (i + 1) (i + 1) N (qs ++ [ρ.length + 1]) (((ρ.set (σ.length + 6) (.cells ((qs.map AV.mapo ++ List.replicate (f.ds.length - i) (AV.val (.map none))).set i (.mapo (ρ.length + 1))))).set (σ.length + 8) (.cells (gx (subsL f) (i + 1)))) ++ [x, .map [] [], y]) := by
 have hlen := h.len
 have hL : ∀ {j : Nat} {z : AO}, ((ρ.set (σ.length + 6) (.cells ((qs.map AV.mapo ++ List.replicate (f.ds.length - i) (AV.val (.map none))).set i (.mapo (ρ.length + 1))))).set (σ.length + 8) (.cells (gx (subsL f) (i + 1))))[j]? = some z → ((((ρ.set (σ.length + 6) (.cells ((qs.map AV.mapo ++ List.replicate (f.ds.length - i) (AV.val (.map none))).set i (.mapo (ρ.length + 1))))).set (σ.length + 8) (.cells (gx (subsL f) (i + 1)))) ++ [x, .map [] [], y]))[j]? = some z := fun hz => getL hz _
 have hq : ∀ q ∈ qs, q < ρ.length := fun q hq => (List.getElem?_eq_some_iff.1 (h.qa q hq).2).1
 refine ⟨by simp; omega, fun j hj => ?_, hL (by rw [get_set (by omega), get_set (by omega)]; exact h.fb), hL (by rw [get_set (by omega), get_set (by omega)]; exact h.t), hL (by rw [get_set (by omega), get_set (by omega)]; exact h.nm), h.ns, hL ?_, hL (by rw [get_set (by omega), get_set (by omega)]; exact h.or), hL (by rw [List.getElem?_set_self (by simp; omega)]), by simp [h.ql], ?_, fun q hq' => ?_⟩
 ·rw [List.getElem?_append_left (by simp; omega), get_set (by omega), get_set (by omega)]
  exact h.pre j hj
 ·rw [get_set (by omega), List.getElem?_set_self (by omega)]
  have e1 : (qs.map AV.mapo).length = i := by simp [h.ql]
  have e2 : f.ds.length - i = (f.ds.length - (i + 1)) + 1 := by omega
  rw [List.set_append_right _ _ (by omega), e1, Nat.sub_self, e2, List.replicate_succ, List.set_cons_zero, List.map_append, List.append_assoc]
  rfl
 ·rw [List.nodup_append]
  refine ⟨h.qn, by simp, fun a ha b hb => ?_⟩
  rw [List.mem_singleton.1 hb]
  have := hq a ha
  omega
 ·rcases List.mem_append.1 hq' with hq' | hq'
  ·have := hq q hq'
   have h9 := (h.qa q hq').1
   exact ⟨h9, hL (by rw [get_set (by omega), get_set (by omega)]; exact (h.qa q hq').2)⟩
  ·rw [List.mem_singleton.1 hq']
   refine ⟨by omega, ?_⟩
   rw [List.getElem?_append_right (by simp)]
   simp
/-- The types of which so many diagrams are done. -/
structure TS (f : FileM) (σ : Sto) (i : Nat) (N : List (ByteArray × Nat)) (qs : List Nat) (ords : List AV) (ρ : Sto) : Prop where
 len : σ.length + 9 ≤ ρ.length
 pre : ∀ j, j < σ.length → ρ[j]? = σ[j]?
 fb : ρ[σ.length]? = some (.cells f.enc.cells)
 t : ρ[σ.length + 4]? = some (.cells [rowAV 4 f.nl (f.ds.map Dgm.enc), .mapo (σ.length + 5), .osl (σ.length + 6) 0 f.ds.length 1, .osl (σ.length + 7) 0 f.ds.length 1, .nilsl])
 nm : ρ[σ.length + 5]? = some (mapN N)
 ns : ∀ s, lookN N s = findD f.ds s
 ty : ρ[σ.length + 6]? = some (.cells (qs.map AV.mapo))
 or : ρ[σ.length + 7]? = some (.cells ords)
 sb : ρ[σ.length + 8]? = some (.cells ((subsL f).map rowN))
 ol : ords.length = f.ds.length
 ob : ∀ m, belL m ords = true
 ql : qs.length = f.ds.length
 qn : qs.Nodup
 qa : ∀ q ∈ qs, σ.length + 9 ≤ q ∧ q < ρ.length
 new : ∀ j q, i ≤ j → qs[j]? = some q → ρ[q]? = some (mapA [])
 old : ∀ j q d, j < i → qs[j]? = some q → f.ds[j]? = some d → ∃ M o, ρ[q]? = some (mapA M) ∧ ords[j]? = some (rowN o) ∧ ord (lmat (hangL d)) d.blocks.length = some o ∧ walkM f d (startM d []) o = some M ∧ typedB f d o = true
theorem LA.all {f : FileM} {σ ρ : Sto} {N : List (ByteArray × Nat)} {qs : List Nat} (h : LA f σ f.ds.length f.ds.length N qs ρ) : TS f σ 0 N qs (List.replicate f.ds.length .nilsl) ρ := by
 refine ⟨h.len, h.pre, h.fb, h.t, h.nm, fun s => by rw [h.ns, List.take_length], by have := h.ty; rwa [Nat.sub_self, List.replicate_zero, List.append_nil] at this, h.or, ?_, by simp, fun m => ?_, h.ql, h.qn, fun q hq => ⟨(h.qa q hq).1, (List.getElem?_eq_some_iff.1 (h.qa q hq).2).1⟩, fun j q _ hq => (h.qa q (List.mem_of_getElem? hq)).2, fun j q d hj => absurd hj (Nat.not_lt_zero _)⟩
 ·have := h.sb
  rw [show f.ds.length = (subsL f).length from (subsL_len f).symm, gx_end] at this
  exact this
 ·have := belL_map (n := m) (fun _ : Nat => AV.nilsl) (List.range f.ds.length) fun _ _ => rfl
  rwa [List.map_const', List.length_range] at this
theorem TS.tyAt {f : FileM} {σ ρ : Sto} {i : Nat} {N : List (ByteArray × Nat)} {qs : List Nat} {ords : List AV} (h : TS f σ i N qs ords ρ) {j q : Nat} (hq : qs[j]? = some q) : TyAt ρ (σ.length + 4) (σ.length + 6) q j f.ds.length (rowAV 4 f.nl (f.ds.map Dgm.enc)) (.mapo (σ.length + 5)) [.osl (σ.length + 7) 0 f.ds.length 1, .nilsl] (qs.map AV.mapo) := by
 have h1 := h.qa q (List.mem_of_getElem? hq)
 have h2 := (List.getElem?_eq_some_iff.1 hq).1
 rw [h.ql] at h2
 exact ⟨h.t, h.ty, by rw [List.getElem?_map, hq]; rfl, by simp [h.ql], h2, h1.2, by omega, by omega⟩
theorem TS.next {f : FileM} {σ ρ : Sto} {i : Nat} {N : List (ByteArray × Nat)} {qs : List Nat} {ords : List AV} (h : TS f σ i N qs ords ρ) {q : Nat} {d : Dgm} {M : MapM} {o : List Nat} (hq : qs[i]? = some q) (hd : f.ds[i]? = some d) (h1 : ord (lmat (hangL d)) d.blocks.length = some o) (h2 : walkM f d (startM d []) o = some M) (h3 : typedB f d o = true) : TS f σ (i + 1) N qs (ords.set i (rowN o)) (sm (ρ.set (σ.length + 7) (.cells (ords.set i (rowN o)))) q M) := by
 have hlen := h.len
 have hqa := h.qa q (List.mem_of_getElem? hq)
 have hi : i < ords.length := by rw [h.ol]; exact (List.getElem?_eq_some_iff.1 hd).1
 have keep : ∀ (j : Nat), j ≠ q → j ≠ σ.length + 7 → (sm (ρ.set (σ.length + 7) (.cells (ords.set i (rowN o)))) q M)[j]? = ρ[j]? := fun j a b => by
  rw [sm, get_set (fun e => a e.symm), get_set (fun e => b e.symm)]
 have hne : ∀ j q', j ≠ i → qs[j]? = some q' → q' ≠ q := fun j q' hj hq' e => by
  subst e
  obtain ⟨a1, a2⟩ := List.getElem?_eq_some_iff.1 hq
  obtain ⟨b1, b2⟩ := List.getElem?_eq_some_iff.1 hq'
  have := (List.pairwise_iff_getElem.1 h.qn)
  rcases Nat.lt_or_gt_of_ne hj with g | g
  ·exact this j i b1 a1 g (b2.trans a2.symm)
  ·exact this i j a1 b1 g (a2.trans b2.symm)
 refine ⟨by rw [sm_len, List.length_set]; exact hlen, fun j hj => by rw [keep j (by omega) (by omega)]; exact h.pre j hj, by rw [keep _ (by omega) (by omega)]; exact h.fb, by rw [keep _ (by omega) (by omega)]; exact h.t, by rw [keep _ (by omega) (by omega)]; exact h.nm, h.ns, by rw [keep _ (by omega) (by omega)]; exact h.ty, ?_, by rw [keep _ (by omega) (by omega)]; exact h.sb, by rw [List.length_set]; exact h.ol, fun m => belL_set (rowN_bel _ _) (h.ob m), h.ql, h.qn, fun q hq => by rw [sm_len, List.length_set]; exact h.qa q hq, fun j q' hj hq' => ?_, fun j q' d' hj hq' hd' => ?_⟩
 ·rw [sm, get_set (by omega), List.getElem?_set_self (by omega)]
 ·have := h.qa q' (List.mem_of_getElem? hq')
  rw [keep q' (hne j q' (by omega) hq') (by omega)]
  exact h.new j q' (by omega) hq'
 ·by_cases e : j = i
  ·subst e
   rw [hq] at hq'
   rw [hd] at hd'
   cases hq'
   cases hd'
   exact ⟨M, o, by rw [sm, List.getElem?_set_self (by rw [List.length_set]; exact hqa.2)], by rw [List.getElem?_set_self hi], h1, h2, h3⟩
  ·have := h.qa q' (List.mem_of_getElem? hq')
   obtain ⟨M', o', g1, g2, g3⟩ := h.old j q' d' (by omega) hq' hd'
   exact ⟨M', o', by rw [keep q' (hne j q' e hq') (by omega)]; exact g1, by rw [List.getElem?_set_ne (fun g => e g.symm)]; exact g2, g3⟩
theorem freeze_end {F : Fr} {P : Program} {Γ : List (Nat × List AV)} (o len sz : Nat) (es : List AV) {c : Code} {env : Env} {σ : Sto} {Q : Exit → Env → Sto → Prop} {cs : List AV} (ho : σ[o]? = some (.cells cs)) (hcs : es.flatMap AV.cells = cs) (hlen : es.length = len) (hsz : ∀ e ∈ es, e.cells.length = sz)
  (h : AW F P Γ c (subL o len sz es env) (σ.set o .dead) Q) : AW F P Γ c env σ Q := by
 refine AW.freeze σ.length o len sz es ho hcs hlen hsz ?_
 rw [subFrom, List.take_of_length_le (by simp), List.drop_of_length_le (by simp), List.map_nil, List.append_nil]
 exact h
/-- The types when all is well. -/
structure Fin (f : FileM) (b : Nat) (ρ : Sto) : Prop where
 ex : ∃ (N : List (ByteArray × Nat)) (qs : List Nat) (ords : List AV) (dg : List Nat), ρ[b + 4]? = some (.cells [rowAV 4 f.nl (f.ds.map Dgm.enc), .mapo (b + 5), .osl (b + 6) 0 f.ds.length 1, .osl (b + 7) 0 f.ds.length 1, rowN dg]) ∧ ρ[b + 5]? = some (mapN N) ∧ (∀ s, lookN N s = findD f.ds s) ∧ ρ[b + 6]? = some (.cells (qs.map AV.mapo)) ∧ qs.length = f.ds.length ∧ ρ[b + 7]? = some (.cells ords) ∧ ords.length = f.ds.length ∧ ord (lmat (subsL f)) f.ds.length = some dg ∧ ∀ (j q : Nat) (d : Dgm), qs[j]? = some q → f.ds[j]? = some d → ∃ M o, ρ[q]? = some (mapA M) ∧ ords[j]? = some (rowN o) ∧ ord (lmat (hangL d)) d.blocks.length = some o ∧ walkM f d (startM d []) o = some M ∧ typedB f d o = true
theorem LA.start (f : FileM) (σ : Sto) : LA f σ 0 0 [] [] (σ ++ [.cells f.enc.cells, .dead, .dead, .dead, .cells [rowAV 4 f.nl (f.ds.map Dgm.enc), .mapo (σ.length + 5), .osl (σ.length + 6) 0 f.ds.length 1, .osl (σ.length + 7) 0 f.ds.length 1, .nilsl], .map [] [], .cells (List.replicate f.ds.length (.val (.map none))), .cells (List.replicate f.ds.length .nilsl), .cells (List.replicate f.ds.length .nilsl)]) := by
 refine ⟨by simp, fun j hj => List.getElem?_append_left hj, by simp, by simp, by simp [mapN], fun s => rfl, by simp, by simp, ?_, rfl, List.nodup_nil, fun q h => by cases h⟩
 rw [gx_zero, subsL_len]
 simp
theorem set_geta (ρ : Sto) (o : Nat) (x : AO) (l : Sto) (k : Nat) : (ρ.set o x ++ l)[ρ.length + k]? = l[k]? := by
 have := app_get (ρ.set o x) l k
 rwa [List.length_set] at this
theorem set_geta0 (ρ : Sto) (o : Nat) (x : AO) (l : Sto) : (ρ.set o x ++ l)[ρ.length]? = l[0]? := set_geta ρ o x l 0
theorem set_seta (ρ : Sto) (o : Nat) (x : AO) (l : Sto) (k : Nat) (v : AO) : (ρ.set o x ++ l).set (ρ.length + k) v = ρ.set o x ++ l.set k v := by
 have := app_set (ρ.set o x) l k v
 rwa [List.length_set] at this
theorem set_bela {ρ : Sto} {o m : Nat} {x x' : AO} {l l' : Sto} (hx : x'.bel m = true) (h : ∀ a ∈ l', a.bel m = true) (j : Nat) (a : AO) (hj : (ρ.set o x' ++ l')[j]? = some a) : (ρ.set o x ++ l)[j]? = some a ∨ a.bel m = true := by
 by_cases hl : j < ρ.length
 ·rw [List.getElem?_append_left (by simpa using hl)] at hj ⊢
  rw [List.getElem?_set] at hj ⊢
  split at hj
  ·rename_i e
   split at hj
   ·cases hj
    exact .inr hx
   ·cases hj
  ·rename_i e
   rw [if_neg e]
   exact .inl hj
 ·rw [List.getElem?_append_right (by simp; omega)] at hj
  exact .inr (h a (List.mem_of_getElem? hj))
theorem subsB_snoc {l : List Blk} {j : Nat} (hj : j < l.length) : subsB (l.take (j + 1)) = subsB (l.take j) ++ (if ((l[j]).kind == 7) = true then [(l[j]).sub.toNat] else []) := by
 unfold subsB
 rw [List.take_succ_eq_append_getElem hj, List.filter_append, List.map_append]
 congr 1
 simp only [List.filter_cons, List.filter_nil]
 split <;> simp
theorem subsL_ok {f : FileM} (hs : ∀ d ∈ f.ds, subOk f d) : ∀ x ∈ subsL f, ∀ k ∈ x, k < (subsL f).length := by
 intro x hx k hk
 obtain ⟨d, hd, rfl⟩ := List.mem_map.1 hx
 obtain ⟨b, hb, rfl⟩ := List.mem_map.1 hk
 obtain ⟨h1, h2⟩ := List.mem_filter.1 hb
 have := hs d hd b h1 (by simpa using h2)
 rw [subsL_len]
 omega
theorem subsL_le {f : FileM} (hz : ∀ d ∈ f.ds, SzD d) : ∀ x ∈ subsL f, x.length ≤ maxLen := by
 intro x hx
 obtain ⟨d, hd, rfl⟩ := List.mem_map.1 hx
 have h1 : (subsB d.blocks).length ≤ d.blocks.length := by simp only [subsB, List.length_map]; exact List.length_filter_le _ _
 have := (hz d hd).blocks
 rw [maxLen_eq]
 omega
theorem sorted3 {f : FileM} (hf : f.ds.length ≤ 2000) (hs : ∀ d ∈ f.ds, subOk f d) (hz : ∀ d ∈ f.ds, SzD d) : APure prog Γ 29 [.sl 1 ((subsL f).map rowN)] (ordV (ord (lmat (subsL f)) f.ds.length)) := by
 have := sorted_calls (Γ := Γ) (subsL f) false (by rw [subsL_len]; exact hf) (subsL_ok hs) (subsL_le hz)
 rwa [row_false, subsL_len] at this
theorem rowN_flat (l : List (List Nat)) : (l.map rowN).flatMap AV.cells = l.map rowN := flat_map rowN rowN_cells l
end Fl
end Go.Proofs.Tryd
/-! Flow: what the program says is what the document says, in plain terms. -/
namespace Go.Proofs.Tryd
set_option linter.unusedSimpArgs false
set_option linter.unusedVariables false
open Go Go.Proofs.Ev
namespace Fl
theorem hits_getD {k : Nat} : ∀ (l : List Src) (r : List Bool), k < r.length → (l.foldl hit r).getD k false = (r.getD k false || l.any fun s => decide (s.block = (k : Int)))
 | [], r, _ => by simp
 | s :: l, r, h => by
  rw [List.foldl_cons, hits_getD l _ (by rw [hit_len]; exact h), List.any_cons]
  have : (hit r s).getD k false = (r.getD k false || decide (s.block = (k : Int))) := by
   unfold hit
   split
   ·rename_i hp
    rw [List.getD_eq_getElem?_getD, List.getElem?_set]
    by_cases e : s.block.toNat = k
    ·have e' : s.block = (k : Int) := by omega
     simp [e, e', h]
    ·have e' : ¬ s.block = (k : Int) := by omega
     simp [e, e']
   ·rename_i hp
    have e' : ¬ s.block = (k : Int) := by omega
    simp [e']
  rw [this, Bool.or_assoc]
theorem lmat_hgs {d : Dgm} {i k : Nat} (hi : i < d.blocks.length) (hk : k < d.blocks.length) : lmat (hangL d) i k = mat (hgs d) i k := by
 have h1 : (hangL d).getD i [] = hangB d.blocks[i] (d.blocks[i]).src := by simp [hangL, List.getD_eq_getElem?_getD, hi]
 have h2 : (hgs d).getD i [] = rowF d.blocks.length d.blocks[i] := by simp [hgs, List.getD_eq_getElem?_getD, hi]
 rw [lmat, mat, h1, h2]
 generalize d.blocks[i] = b
 unfold rowF
 by_cases h4 : b.kind = 4
 ·rw [if_pos h4]
  have : hangB b b.src = [] := by simp [hangB, h4]
  rw [this]
  simp [List.getD_eq_getElem?_getD, List.getElem?_replicate, hk]
 ·rw [if_neg h4, hits_getD _ _ (by simpa using hk), Bool.eq_iff_iff]
  rw [decide_eq_true_iff]
  simp only [decide_eq_true_eq, hangB, List.mem_map, List.mem_filter, Bool.and_eq_true, bne_iff_ne, ne_eq, h4, not_false_eq_true, true_and, List.getD_eq_getElem?_getD, List.getElem?_replicate, hk, if_true, Option.getD_some, Bool.false_or, List.any_eq_true]
  constructor
  ·rintro ⟨s, ⟨hs, hp⟩, rfl⟩
   exact ⟨s, hs, by omega⟩
  ·rintro ⟨s, hs, hp⟩
   exact ⟨s, ⟨hs, by omega⟩, by omega⟩
theorem ordD_eq (d : Dgm) : ord (lmat (hangL d)) d.blocks.length = ordD d := ord_congr fun _ _ hi hk => lmat_hgs hi hk
theorem hitsS_getD {k : Nat} : ∀ (l : List Blk) (r : List Bool), k < r.length → (l.foldl hitS r).getD k false = (r.getD k false || l.any fun b => (b.kind == 7) && decide (b.sub.toNat = k))
 | [], r, _ => by simp
 | b :: l, r, h => by
  rw [List.foldl_cons, hitsS_getD l _ (by rw [hitS_len]; exact h), List.any_cons]
  have : (hitS r b).getD k false = (r.getD k false || ((b.kind == 7) && decide (b.sub.toNat = k))) := by
   unfold hitS
   split
   ·rename_i hp
    rw [hp, List.getD_eq_getElem?_getD, List.getElem?_set]
    by_cases e : b.sub.toNat = k
    ·simp [e, h]
    ·simp [e]
   ·rename_i hp
    have : (b.kind == 7) = false := by simpa using hp
    rw [this]
    simp
  rw [this, Bool.or_assoc]
theorem ordF_eq (f : FileM) : ord (lmat (subsL f)) f.ds.length = ordF f := ord_congr fun i k hi hk => by
 have h1 : (subsL f).getD i [] = subsB (f.ds[i]).blocks := by simp [subsL, List.getD_eq_getElem?_getD, hi]
 have h2 : (sgs f).getD i [] = subRow f.ds.length (f.ds[i]).blocks := by simp [sgs, List.getD_eq_getElem?_getD, hi]
 rw [lmat, mat, h1, h2]
 generalize f.ds[i] = d
 unfold subRow
 rw [hitsS_getD _ _ (by simpa using hk), Bool.eq_iff_iff]
 rw [decide_eq_true_iff]
 simp only [decide_eq_true_eq, subsB, List.mem_map, List.mem_filter, Bool.and_eq_true, List.getD_eq_getElem?_getD, List.getElem?_replicate, hk, if_true, Option.getD_some, Bool.false_or, List.any_eq_true]
 constructor
 ·rintro ⟨b, ⟨hb, h7⟩, rfl⟩
  exact ⟨b, hb, h7, rfl⟩
 ·rintro ⟨b, hb, h7, rfl⟩
  exact ⟨b, ⟨hb, h7⟩, rfl⟩
-- a source's type
theorem typB_congr {f : FileM} {g g' : Src → Int} {b : Blk} (h5 : b.kind = 5 → ∀ s, b.src[0]? = some s → g s = g' s) (h6 : b.kind = 6 → ∀ s, b.src[1]? = some s → g s = g' s) (port : Int) : typB f g b port = typB f g' b port := by
 unfold typB
 by_cases e5 : b.kind = 5
 ·have := h5 e5
  simp only [e5]
  cases hs : b.src[0]? with
  | none => rfl
  | some s => simp [this s hs]
 ·by_cases e6 : b.kind = 6
  ·have := h6 e6
   simp only [e6]
   cases hs : b.src[1]? with
   | none => rfl
   | some s => simp [this s hs]
  ·simp [e5, e6]
theorem typ_keep {f : FileM} {d : Dgm} : ∀ {m : Nat} {s : Src}, Dp d m s → ∀ {m' : Nat}, m ≤ m' → typ f d m' s = typ f d m s
 | 0, _, h, _, _ => h.elim
 | m + 1, s, h, m', hm => by
  obtain ⟨k, rfl⟩ : ∃ k, m' = k + 1 := ⟨m' - 1, by omega⟩
  simp only [typ]
  split
  ·rfl
  ·rename_i h1
   split
   ·rfl
   ·rename_i h2
    have hpos : 0 ≤ s.block := by simp at h1 h2; omega
    cases hb : d.blocks[s.block.toNat]? with
    | none => rfl
    | some b =>
     simp only
     split
     ·rfl
     ·exact typB_congr (fun e s' hs => typ_keep ((h hpos b hb).1 e s' hs) (by omega)) (fun e s' hs => typ_keep ((h hpos b hb).2 e s' hs) (by omega)) _
section
variable {f : FileM} {d : Dgm} {o : List Nat}
/-- A source's type, for good. -/
def T (f : FileM) (d : Dgm) (s : Src) : Int := typ f d (dN d) s
theorem T_blk (ho : ordD d = some o) (hin : inB d) {k : Nat} {b : Blk} (hb : d.blocks[k]? = some b) {s : Src} (hk : s.block = (k : Int)) (h0 : 0 ≤ s.port) (h1 : s.port < f.results b) : T f d s = typB f (T f d) b s.port := by
 have hl := (List.getElem?_eq_some_iff.1 hb).1
 have hD := dp_all ho hin s
 have hb' : d.blocks[s.block.toNat]? = some b := by rw [hk, Int.toNat_natCast]; exact hb
 have hD := hD (by omega) b hb'
 show typ f d (d.blocks.length + 1) s = _
 simp only [typ, hb']
 rw [if_neg (by simp; omega), if_neg (by simp; omega), if_neg (by simp; omega)]
 exact typB_congr (fun e s' hs => (typ_keep (hD.1 e s' hs) (Nat.le_succ _)).symm) (fun e s' hs => (typ_keep (hD.2 e s' hs) (Nat.le_succ _)).symm) _
theorem T_in {s : Src} (hk : s.block = -1) (h0 : 0 ≤ s.port) (h1 : s.port < (d.ins.length : Int)) : ∃ p, d.ins[s.port.toNat]? = some p ∧ T f d s = p.type := by
 obtain ⟨p, hp⟩ : ∃ p, d.ins[s.port.toNat]? = some p := ⟨_, List.getElem?_eq_getElem (by omega)⟩
 refine ⟨p, hp, ?_⟩
 show typ f d (d.blocks.length + 1) s = _
 simp only [typ, hp]
 rw [if_neg (by simp; omega), if_pos (by simp [hk]), if_neg (by simp; omega)]
theorem source_iff {s : Src} : f.source d s = true ↔ (s.block = -1 ∧ 0 ≤ s.port ∧ s.port < (d.ins.length : Int)) ∨ (∃ (k : Nat) (b : Blk), s.block = (k : Int) ∧ d.blocks[k]? = some b ∧ 0 ≤ s.port ∧ s.port < f.results b) := by
 unfold FileM.source
 by_cases h1 : s.block = -1
 ·have : (s.block != -1) = false := by simp [h1]
  rw [this]
  simp only [Bool.false_eq_true, if_false, Bool.and_eq_true, decide_eq_true_eq]
  constructor
  ·exact fun h => .inl ⟨h1, h⟩
  ·rintro (h | ⟨k, b, hk, _⟩)
   ·exact h.2
   ·omega
 ·have : (s.block != -1) = true := by simp [h1]
  rw [this, if_pos rfl]
  by_cases h2 : s.block < 0 ∨ s.block ≥ (d.blocks.length : Int)
  ·rw [if_pos (by simpa using h2)]
   constructor
   ·intro h; cases h
   ·rintro (h | ⟨k, b, hk, hb, _⟩)
    ·exact absurd h.1 h1
    ·have := (List.getElem?_eq_some_iff.1 hb).1
     omega
  ·rw [if_neg (by simpa using h2)]
   obtain ⟨k, hk⟩ := Int.eq_ofNat_of_zero_le (show 0 ≤ s.block by omega)
   obtain ⟨b, hb⟩ : ∃ b, d.blocks[k]? = some b := ⟨_, List.getElem?_eq_getElem (by omega)⟩
   rw [hk, Int.toNat_natCast, hb]
   simp only [Bool.and_eq_true, decide_eq_true_eq]
   constructor
   ·exact fun h => .inr ⟨k, b, rfl, hb, h⟩
   ·rintro (h | ⟨k', b', hk', hb', h⟩)
    ·omega
    ·have : k' = k := by omega
     subst this
     rw [hb] at hb'
     cases hb'
     exact h
theorem T_bad {s : Src} (h : f.source d s = false) : T f d s = -1 := by
 have hn : ¬ f.source d s = true := by rw [h]; simp
 rw [source_iff] at hn
 show typ f d (d.blocks.length + 1) s = _
 simp only [typ]
 split
 ·rfl
 ·rename_i h1
  have h1 : (0 ≤ s.port ∧ -1 ≤ s.block) ∧ s.block < (d.blocks.length : Int) := by simpa using h1
  split
  ·rename_i h2
   have h2 : s.block = -1 := by simpa using h2
   rw [if_pos]
   simp only [decide_eq_true_eq]
   have : ¬ s.port < (d.ins.length : Int) := fun h => hn (.inl ⟨h2, h1.1.1, h⟩)
   omega
  ·rename_i h2
   have h2 : ¬ s.block = -1 := by simpa using h2
   obtain ⟨k, hk⟩ := Int.eq_ofNat_of_zero_le (show 0 ≤ s.block by omega)
   obtain ⟨b, hb⟩ : ∃ b, d.blocks[k]? = some b := ⟨_, List.getElem?_eq_getElem (by omega)⟩
   rw [hk, Int.toNat_natCast, hb]
   simp only
   rw [if_pos]
   simp only [decide_eq_true_eq]
   have : ¬ s.port < f.results b := fun h => hn (.inr ⟨k, b, hk, hb, h1.1.1, h⟩)
   omega
end
end Fl
end Go.Proofs.Tryd
/-! Flow: the maps hold the sources' types; a diagram is typed as the document says. -/
namespace Go.Proofs.Tryd
set_option linter.unusedSimpArgs false
set_option linter.unusedVariables false
open Go Go.Proofs.Ev
namespace Fl
theorem look_putU (key : Nat → Int × Int) (hinj : ∀ i j, key i = key j → i = j) : ∀ (l : List Int) (M : MapM) (j0 : Nat), (∀ i v, l[i]? = some v → look (putU key M l j0) (key (j0 + i)) = some v) ∧ (∀ q, (∀ i, i < l.length → q ≠ key (j0 + i)) → look (putU key M l j0) q = look M q)
 | [], M, j0 => ⟨fun i v h => by simp at h, fun q _ => rfl⟩
 | x :: l, M, j0 => by
  obtain ⟨h1, h2⟩ := look_putU key hinj l (upd M (key j0) x) (j0 + 1)
  constructor
  ·intro i v hv
   cases i with
   | zero =>
    simp at hv
    subst hv
    show look (putU key (upd M (key j0) x) l (j0 + 1)) (key j0) = _
    rw [h2 (key j0) (fun i _ e => by have := hinj _ _ e; omega), look_upd, if_pos rfl]
   | succ i =>
    have := h1 i v (by simpa using hv)
    rw [show j0 + (i + 1) = j0 + 1 + i by omega]
    exact this
  ·intro q hq
   show look (putU key (upd M (key j0) x) l (j0 + 1)) q = _
   rw [h2 q (fun i hi => by have := hq (i + 1) (by simpa using hi); rwa [show j0 + 1 + i = j0 + (i + 1) by omega]), look_upd, if_neg (by have := hq 0 (by simp); simpa using this)]
theorem look_delU : ∀ (l : List Blk) (M : MapM) (j0 : Nat), (∀ i b, l[i]? = some b → b.kind = 4 → look (delU M l j0) (((j0 + i : Nat) : Int), 0) = some b.op) ∧ (∀ q, (∀ i b, l[i]? = some b → b.kind = 4 → q ≠ (((j0 + i : Nat) : Int), 0)) → look (delU M l j0) q = look M q)
 | [], M, j0 => ⟨fun i v h => by simp at h, fun q _ => rfl⟩
 | x :: l, M, j0 => by
  obtain ⟨h1, h2⟩ := look_delU l (if (x.kind == 4) = true then upd M ((j0 : Int), 0) x.op else M) (j0 + 1)
  constructor
  ·intro i b hb h4
   cases i with
   | zero =>
    simp at hb
    subst hb
    show look (delU _ l (j0 + 1)) _ = _
    rw [h2 _ (fun i b _ _ e => by have := congrArg Prod.fst e; simp at this <;> omega), if_pos (by simp [h4]), look_upd, if_pos (by simp)]
   | succ i =>
    have := h1 i b (by simpa using hb) h4
    rw [show j0 + (i + 1) = j0 + 1 + i by omega]
    exact this
  ·intro q hq
   show look (delU _ l (j0 + 1)) q = _
   rw [h2 q (fun i b hb h4 => by have := hq (i + 1) b (by simpa using hb) h4; rwa [show j0 + 1 + i = j0 + (i + 1) by omega])]
   split
   ·rename_i h4
    rw [look_upd, if_neg (by have := hq 0 x (by simp) (by simpa using h4); simpa using this)]
   ·rfl
theorem results1 {f : FileM} {b : Blk} (h0 : 0 ≤ b.kind) (h7 : b.kind < 7) : f.results b = 1 := by
 unfold FileM.results
 rw [if_neg (by simp; omega), if_pos (by simpa using h7)]
section
variable {f : FileM} {d : Dgm} {o : List Nat}
/-- The sources whose types are noted when so many blocks are done. -/
def known (f : FileM) (d : Dgm) (p : List Nat) (s : Src) : Prop := f.source d s = true ∧ (s.block = -1 ∨ ∃ (k : Nat) (b : Blk), s.block = (k : Int) ∧ d.blocks[k]? = some b ∧ (b.kind = 4 ∨ k ∈ p))
def Inv (f : FileM) (d : Dgm) (p : List Nat) (M : MapM) : Prop := ∀ s : Src, (known f d p s → look M (s.block, s.port) = some (T f d s)) ∧ (¬ known f d p s → look M (s.block, s.port) = none)
theorem T_4 (ho : ordD d = some o) (hin : inB d) {k : Nat} {b : Blk} (hb : d.blocks[k]? = some b) (h4 : b.kind = 4) {s : Src} (hk : s.block = (k : Int)) (hp : s.port = 0) : T f d s = b.op := by
 rw [T_blk ho hin hb hk (by omega) (by rw [results1 (by omega) (by omega)]; omega)]
 simp [typB, h4]
theorem start_inv (ho : ordD d = some o) (hin : inB d) : Inv f d [] (startM d []) := by
 obtain ⟨p1, p2⟩ := look_putU (fun j => ((-1 : Int), (j : Int))) (fun i j e => by have := congrArg Prod.snd e; simp at this <;> omega) (d.ins.map (·.type)) [] 0
 obtain ⟨d1, d2⟩ := look_delU d.blocks (putU (fun j => ((-1 : Int), (j : Int))) [] (d.ins.map (·.type)) 0) 0
 intro s
 constructor
 ·rintro ⟨hs, hk⟩
  rcases hk with hm | ⟨k, b, hk, hb, h4 | h⟩
  ·rcases source_iff.1 hs with ⟨_, h0, h1⟩ | ⟨k, b, hk, _⟩
   ·obtain ⟨p, hp, hT⟩ := T_in hm h0 h1
    have e : (s.block, s.port) = ((-1 : Int), ((0 + s.port.toNat : Nat) : Int)) := Prod.ext hm (by simp <;> omega)
    rw [e, startM, d2 _ (fun i b _ _ e => by have := congrArg Prod.fst e; simp at this <;> omega), p1 s.port.toNat p.type (by rw [List.getElem?_map, hp]; rfl), hT]
   ·omega
  ·rcases source_iff.1 hs with ⟨h, _⟩ | ⟨k', b', hk', hb', h0, h1⟩
   ·omega
   ·have : k' = k := by omega
    subst this
    rw [hb] at hb'
    cases hb'
    rw [results1 (by omega) (by omega)] at h1
    have hp : s.port = 0 := by omega
    rw [T_4 ho hin hb h4 hk hp, hk, hp]
    have := d1 k' b hb h4
    rw [Nat.zero_add] at this
    exact this
  ·cases h
 ·intro hn
  rw [startM, d2 _ (fun i b hb h4 e => ?_), p2 _ (fun i hi e => ?_)]
  ·rfl
  ·have e1 := congrArg Prod.fst e
   have e2 := congrArg Prod.snd e
   simp at e1 e2 hi
   exact hn ⟨source_iff.2 (.inl ⟨e1, by omega, by omega⟩), .inl e1⟩
  ·have e1 := congrArg Prod.fst e
   have e2 := congrArg Prod.snd e
   simp at e1 e2
   exact hn ⟨source_iff.2 (.inr ⟨i, b, by omega, hb, by omega, by rw [results1 (by omega) (by omega)]; omega⟩), .inr ⟨i, b, by omega, hb, .inl h4⟩⟩
theorem ibeq_comm (a b : Int) : (a == b) = (b == a) := by
 rw [Bool.eq_iff_iff]
 simp only [beq_iff_eq]
 exact eq_comm
theorem resM_ask {b : Blk} (hw : WfB f b) (h4 : ¬ b.kind = 4) (h7 : ¬ b.kind = 7) (g : Src → Int) : (resM b (b.src.map g)).2 = askB f b (b.src.map g) ∧ (resM b (b.src.map g)).1 = typB f g b 0 := by
 have h0 := hw.lo
 have hh := hw.hi
 have hk : b.kind = 0 ∨ b.kind = 1 ∨ b.kind = 2 ∨ b.kind = 3 ∨ b.kind = 5 ∨ b.kind = 6 := by omega
 rcases hk with e | e | e | e | e | e
 ·simp [resM, askB, typB, e]
 ·simp [resM, askB, typB, e]
 ·simp [resM, askB, typB, e]
 ·obtain ⟨hl, ho1, ho2⟩ := hw.bin e
  obtain ⟨s0, s1, hs⟩ : ∃ s0 s1, b.src = [s0, s1] := by
   match hb : b.src, hl with
   | [s0, s1], _ => exact ⟨s0, s1, rfl⟩
  have hop : b.op = 1 ∨ b.op = 2 ∨ b.op = 3 ∨ b.op = 4 ∨ b.op = 5 ∨ b.op = 6 ∨ b.op = 7 ∨ b.op = 8 ∨ b.op = 9 ∨ b.op = 10 ∨ b.op = 11 ∨ b.op = 12 ∨ b.op = 13 ∨ b.op = 14 ∨ b.op = 15 := by omega
  rcases hop with q | q | q | q | q | q | q | q | q | q | q | q | q | q | q <;> simp [resM, askB, typB, e, hs, rul, rulesT, q] <;> (try (congr 1; exact ibeq_comm _ _))
 ·have hl := hw.two e
  obtain ⟨s0, s1, hs⟩ : ∃ s0 s1, b.src = [s0, s1] := by
   match hb : b.src, hl with
   | [s0, s1], _ => exact ⟨s0, s1, rfl⟩
  simp [resM, askB, typB, e, hs]
 ·have hl := hw.three e
  obtain ⟨s0, s1, s2, hs⟩ : ∃ s0 s1 s2, b.src = [s0, s1, s2] := by
   match hb : b.src, hl with
   | [s0, s1, s2], _ => exact ⟨s0, s1, s2, rfl⟩
  simp [resM, askB, typB, e, hs]
def okB (f : FileM) (d : Dgm) (b : Blk) : Bool := (b.kind == 4) || askB f b (b.src.map (T f d))
theorem step_inv (ho : ordD d = some o) (hin : inB d) {p : List Nat} {M : MapM} (hI : Inv f d p M) {k : Nat} {b : Blk} (hb : d.blocks[k]? = some b) (hw : WfB f b) (hsrc : ¬ b.kind = 4 → ∀ s ∈ b.src, known f d p s) : (okB f d b = true → ∃ M', stepM f M k b = some M' ∧ Inv f d (p ++ [k]) M') ∧ (okB f d b = false → stepM f M k b = none) := by
 have hkn : ∀ s : Src, known f d (p ++ [k]) s ↔ known f d p s ∨ (f.source d s = true ∧ s.block = (k : Int)) := by
  intro s
  constructor
  ·rintro ⟨h1, h | ⟨k', b', h2, h3, h4 | h4⟩⟩
   ·exact .inl ⟨h1, .inl h⟩
   ·exact .inl ⟨h1, .inr ⟨k', b', h2, h3, .inl h4⟩⟩
   ·rcases List.mem_append.1 h4 with h4 | h4
    ·exact .inl ⟨h1, .inr ⟨k', b', h2, h3, .inr h4⟩⟩
    ·rw [List.mem_singleton.1 h4] at h2
     exact .inr ⟨h1, h2⟩
  ·rintro (⟨h1, h | ⟨k', b', h2, h3, h4 | h4⟩⟩ | ⟨h1, h2⟩)
   ·exact ⟨h1, .inl h⟩
   ·exact ⟨h1, .inr ⟨k', b', h2, h3, .inl h4⟩⟩
   ·exact ⟨h1, .inr ⟨k', b', h2, h3, .inr (List.mem_append.2 (.inl h4))⟩⟩
   ·exact ⟨h1, .inr ⟨k, b, h2, hb, .inr (List.mem_append.2 (.inr (List.mem_singleton.2 rfl)))⟩⟩
 have hmap : ¬ b.kind = 4 → b.src.map (lkM M) = b.src.map (T f d) := fun h4 => List.map_congr_left fun s hs => by
  rw [lkM, (hI s).1 (hsrc h4 s hs)]
  rfl
 -- one value under the block's number
 have one : ∀ v : Int, b.kind < 7 → (∀ s : Src, s.block = (k : Int) → s.port = 0 → T f d s = v) → Inv f d (p ++ [k]) (upd M ((k : Int), 0) v) := by
  intro v h7 hv s
  rw [hkn, look_upd]
  by_cases e : (s.block, s.port) = ((k : Int), 0)
  ·have e1 := congrArg Prod.fst e
   have e2 := congrArg Prod.snd e
   simp at e1 e2
   rw [if_pos e]
   refine ⟨fun _ => by rw [hv s e1 e2], fun hn => absurd (.inr ⟨source_iff.2 (.inr ⟨k, b, e1, hb, by omega, by rw [results1 hw.lo h7]; omega⟩), e1⟩) hn⟩
  ·rw [if_neg e]
   have hnk : ¬ (f.source d s = true ∧ s.block = (k : Int)) := by
    rintro ⟨h1, h2⟩
    rcases source_iff.1 h1 with ⟨h, _⟩ | ⟨k', b', hk', hb', g0, g1⟩
    ·omega
    ·have : k' = k := by omega
     subst this
     rw [hb] at hb'
     cases hb'
     rw [results1 hw.lo h7] at g1
     exact e (Prod.ext h2 (by simp <;> omega))
   refine ⟨fun h => (hI s).1 (h.resolve_right hnk), fun hn => (hI s).2 fun h => hn (.inl h)⟩
 by_cases h7 : b.kind = 7
 ·have hask : okB f d b = decide (b.src.map (T f d) = insT f b) := by simp [okB, askB, h7]
  have hst : stepM f M k b = if b.src.map (T f d) = insT f b then some (putU (fun j => ((k : Int), (j : Int))) M (outT f b) 0) else none := by
   rw [stepM, if_pos (by simp [h7]), subR, hmap (by omega)]
   split <;> simp
  rw [hask, hst]
  refine ⟨fun h => ⟨_, by rw [if_pos (by simpa using h)], ?_⟩, fun h => by rw [if_neg (by simpa using h)]⟩
  obtain ⟨u, hu⟩ := Int.eq_ofNat_of_zero_le (hw.sub h7).1
  obtain ⟨e, he⟩ : ∃ z, f.ds[u]? = some z := ⟨_, List.getElem?_eq_getElem (by have := (hw.sub h7).2; omega)⟩
  have hr := results7 h7 hu he
  have hout : outT f b = e.outs.map (·.port.type) := by simp only [outT, hu, Int.toNat_natCast, he]
  obtain ⟨p1, p2⟩ := look_putU (fun j => ((k : Int), (j : Int))) (fun i j e => by have := congrArg Prod.snd e; simp at this <;> omega) (outT f b) M 0
  intro s
  rw [hkn]
  by_cases hs : f.source d s = true ∧ s.block = (k : Int)
  ·obtain ⟨h1, h2⟩ := hs
   refine ⟨fun _ => ?_, fun hn => absurd (.inr ⟨h1, h2⟩) hn⟩
   rcases source_iff.1 h1 with ⟨h, _⟩ | ⟨k', b', hk', hb', g0, g1⟩
   ·omega
   ·have : k' = k := by omega
    subst this
    rw [hb] at hb'
    cases hb'
    rw [T_blk ho hin hb h2 g0 g1]
    rw [hr] at g1
    obtain ⟨ou, hou⟩ : ∃ z, e.outs[s.port.toNat]? = some z := ⟨_, List.getElem?_eq_getElem (by omega)⟩
    have := p1 s.port.toNat ou.port.type (by rw [hout, List.getElem?_map, hou]; rfl)
    have e2 : (s.block, s.port) = ((k' : Int), ((0 + s.port.toNat : Nat) : Int)) := Prod.ext h2 (by simp <;> omega)
    rw [e2, this]
    simp [typB, h7, hu, he, hou]
  ·have hne : ∀ i, i < (outT f b).length → (s.block, s.port) ≠ ((k : Int), ((0 + i : Nat) : Int)) := fun i hi e1 => by
    have a1 := congrArg Prod.fst e1
    have a2 := congrArg Prod.snd e1
    simp at a1 a2
    rw [hout, List.length_map] at hi
    exact hs ⟨source_iff.2 (.inr ⟨k, b, a1, hb, by omega, by rw [hr]; omega⟩), a1⟩
   rw [p2 _ hne]
   exact ⟨fun h => (hI s).1 (h.resolve_right hs), fun hn => (hI s).2 fun h => hn (.inl h)⟩
 ·have hlt : b.kind < 7 := by have := hw.hi; omega
  have hst0 : stepM f M k b = if (resM b (fromT M b)).2 = true then some (upd M ((k : Int), 0) (resM b (fromT M b)).1) else none := by
   rw [stepM, if_neg (by simp [h7])]
  by_cases h4 : b.kind = 4
  ·have hres : resM b (fromT M b) = (b.op, true) := by simp [resM, h4]
   have hok : okB f d b = true := by simp [okB, h4]
   rw [hok, hst0, hres]
   exact ⟨fun _ => ⟨_, rfl, one _ hlt fun s h1 h2 => T_4 ho hin hb h4 h1 h2⟩, fun h => by cases h⟩
  ·have hft : fromT M b = b.src.map (T f d) := by rw [fromT, if_neg (by simp [h4]), hmap h4]
   obtain ⟨r1, r2⟩ := resM_ask hw h4 h7 (T f d)
   have hok : okB f d b = askB f b (b.src.map (T f d)) := by simp [okB, h4]
   rw [hok, hst0, hft, r1, r2]
   refine ⟨fun h => ⟨_, by rw [if_pos h], one _ hlt fun s h1 h2 => ?_⟩, fun h => by rw [if_neg (by rw [h]; simp)]⟩
   rw [T_blk ho hin hb h1 (by omega) (by rw [results1 hw.lo hlt]; omega), h2]
def okK (f : FileM) (d : Dgm) (k : Nat) : Bool := match d.blocks[k]? with
 | some b => okB f d b
 | none => false
theorem walk_inv (hg : GoodD f d) (ho : ordD d = some o) : ∀ (q p : List Nat) (M : MapM), o = p ++ q → Inv f d p M → (q.all (okK f d) = true → ∃ M', walkM f d M q = some M' ∧ Inv f d o M') ∧ (q.all (okK f d) = false → walkM f d M q = none)
 | [], p, M, e, hI => by
  rw [List.append_nil] at e
  subst e
  exact ⟨fun _ => ⟨M, rfl, hI⟩, fun h => by simp at h⟩
 | k :: q, p, M, e, hI => by
  obtain ⟨h1, h2, h3, h4⟩ := ord_ok ho
  have hk : k < d.blocks.length := h2 k (by rw [e]; simp)
  obtain ⟨b, hb⟩ : ∃ z, d.blocks[k]? = some z := ⟨_, List.getElem?_eq_getElem hk⟩
  have hbm := List.mem_of_getElem? hb
  obtain ⟨s1, s2⟩ := step_inv ho hg.inB hI hb (hg.wf b hbm) (fun h4' s hs => by
   have hv := hg.src b hbm s hs
   refine ⟨hv, ?_⟩
   rcases source_iff.1 hv with ⟨h, _⟩ | ⟨j, b', hj, hb', _⟩
   ·exact .inl h
   ·refine .inr ⟨j, b', hj, hb', .inr ?_⟩
    have hjl := (List.getElem?_eq_some_iff.1 hb').1
    exact h4 p k q e j hjl (mat_hgs hb h4' hs hj hjl))
  have hall : (k :: q).all (okK f d) = (okB f d b && q.all (okK f d)) := by simp [okK, hb]
  rw [hall]
  simp only [walkM, hb]
  cases hok : okB f d b with
  | false =>
   rw [s2 hok]
   exact ⟨fun h => by simp at h, fun _ => rfl⟩
  | true =>
   obtain ⟨M', hM', hI'⟩ := s1 hok
   rw [hM']
   simp only [Option.bind_some, Bool.true_and]
   exact walk_inv hg ho q (p ++ [k]) M' (by rw [e]; simp) hI'
theorem known_all (ho : ordD d = some o) {s : Src} : known f d o s ↔ f.source d s = true := by
 refine ⟨fun h => h.1, fun h => ⟨h, ?_⟩⟩
 rcases source_iff.1 h with ⟨h, _⟩ | ⟨k, b, hk, hb, _⟩
 ·exact .inl h
 ·obtain ⟨h1, h2, h3, _⟩ := ord_ok ho
  exact .inr ⟨k, b, hk, hb, .inr (all_mem h1 h2 h3 (List.getElem?_eq_some_iff.1 hb).1)⟩
theorem typed_eq (hg : GoodD f d) (ho : ordD d = some o) : typedB f d o = asksB f d ∧ (typedB f d o = true → ∀ M, walkM f d (startM d []) o = some M → ∀ s : Src, look M (s.block, s.port) = if f.source d s = true then some (T f d s) else none) := by
 obtain ⟨w1, w2⟩ := walk_inv hg ho o [] (startM d []) rfl (start_inv ho hg.inB)
 obtain ⟨h1, h2, h3, _⟩ := ord_ok ho
 have hoks : o.all (okK f d) = d.blocks.all (okB f d) := by
  rw [Bool.eq_iff_iff, List.all_eq_true, List.all_eq_true]
  constructor
  ·intro h b hb
   obtain ⟨k, hk, rfl⟩ := List.mem_iff_getElem.1 hb
   have := h k (all_mem h1 h2 h3 hk)
   simpa [okK, hk] using this
  ·intro h k hk
   have hkl := h2 k hk
   simpa [okK, hkl] using h _ (List.getElem_mem hkl)
 have hask : asksB f d = (d.blocks.all (fun b => askB f b (b.src.map (T f d))) && d.outs.all (fun o => T f d o.src == o.port.type)) := rfl
 cases hal : o.all (okK f d) with
 | false =>
  have hw := w2 hal
  have ht : typedB f d o = false := by unfold typedB; rw [hw]
  refine ⟨?_, fun h => by rw [ht] at h; cases h⟩
  rw [ht, hask]
  rw [hoks] at hal
  obtain ⟨b, hb, hbf⟩ := List.all_eq_false.1 hal
  have : d.blocks.all (fun b => askB f b (b.src.map (T f d))) = false := List.all_eq_false.2 ⟨b, hb, by
   intro h
   apply hbf
   simp [okB, h]⟩
  rw [this]
  rfl
 | true =>
  obtain ⟨M, hM, hI⟩ := w1 hal
  have hlook : ∀ s : Src, look M (s.block, s.port) = if f.source d s = true then some (T f d s) else none := fun s => by
   split
   ·rename_i h
    exact (hI s).1 ((known_all ho).2 h)
   ·rename_i h
    exact (hI s).2 fun g => h g.1
  have hlk : ∀ s : Src, f.source d s = true → lkM M s = T f d s := fun s hs => by
   rw [lkM, hlook, if_pos hs]
   rfl
  have ht : typedB f d o = endB d M := by unfold typedB; rw [hM]
  refine ⟨?_, fun _ M' hM' s => by rw [hM] at hM'; cases hM'; exact hlook s⟩
  rw [ht, hask, endB]
  rw [hoks] at hal
  congr 1
  ·rw [Bool.eq_iff_iff, List.all_eq_true, List.all_eq_true]
   have key : ∀ b ∈ d.blocks, ((!((b.kind == 4) && ((b.src[0]?.map (lkM M)).getD 0 != b.op))) = true ↔ askB f b (b.src.map (T f d)) = true) := by
    intro b hb
    have hok := List.all_eq_true.1 hal b hb
    by_cases h4 : b.kind = 4
    ·have hl := (hg.wf b hb).one (.inr h4)
     obtain ⟨s0, hs⟩ : ∃ s0, b.src = [s0] := by
      match hbs : b.src, hl with
      | [s0], _ => exact ⟨s0, rfl⟩
     have := hlk s0 (hg.src b hb s0 (by rw [hs]; simp))
     simp [askB, h4, hs, this]
    ·have : askB f b (b.src.map (T f d)) = true := by simpa [okB, h4] using hok
     simp [h4, this]
   exact ⟨fun h b hb => (key b hb).1 (h b hb), fun h b hb => (key b hb).2 (h b hb)⟩
  ·rw [Bool.eq_iff_iff]
   simp only [Bool.not_eq_true', List.any_eq_false, bne_iff_ne, ne_eq, Decidable.not_not, List.all_eq_true, beq_iff_eq]
   exact ⟨fun h x hx => by rw [← hlk _ (hg.out x hx)]; exact h x hx, fun h x hx => by rw [hlk _ (hg.out x hx)]; exact h x hx⟩
theorem diaC_eq (hg : GoodD f d) (i : Nat) : diaC f i d = diaM f i d := by
 unfold diaC diaM
 rw [ordD_eq]
 cases h : ordD d with
 | none => simp
 | some o =>
  simp only [(typed_eq hg h).1, Option.isSome_some, Bool.true_eq_false, if_false]
  cases asksB f d <;> simp
end
theorem chkC_eq {f : FileM} (hg : f.right = true → ∀ d ∈ f.ds, GoodD f d) : chkC f = if f.right = true then checkM f else 11 := by
 unfold chkC
 split
 ·rename_i hr
  have hd : ∀ i, diaCAt f i = diaAt f i := fun i => by
   unfold diaCAt diaAt
   cases h : f.ds[i]? with
   | none => rfl
   | some d => exact diaC_eq (hg hr d (List.mem_of_getElem? h)) i
  have : diaCAt f = diaAt f := funext hd
  rw [this, ordF_eq]
  rfl
 ·rfl
/-- What is told of a source of a diagram, if there are both. -/
def ofO (n : Nat) (Mf : Nat → MapM) (dia : Int) (s : Src) : Option Int := if (decide (dia < 0) || decide (dia ≥ ((n : Nat) : Int))) = true then none else look (Mf dia.toNat) (s.block, s.port)
def orO (n : Nat) (Or : Nat → List Nat) (dia : Int) : List Nat := if (decide (dia < 0) || decide (dia ≥ ((n : Nat) : Int))) = true then [] else Or dia.toNat
end Fl
end Go.Proofs.Tryd
