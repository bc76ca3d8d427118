import Derived.Test.YteekpkbmkibacaaDoorEvLate
/-! An element that is written behind its append: regions. -/
namespace Go.Proofs.Ev
set_option linter.unusedSimpArgs false
set_option linter.unusedVariables false
open Go
variable {F : Fr} {P : Program} {Γ : List (Nat × List AV)}
theorem setBlk_comm {w : World} {b c : Nat} {x y : Obj} (h : b ≠ c) : setBlk (setBlk w b x) c y = setBlk (setBlk w c y) b x := by
  unfold setBlk
  congr 1
  apply Array.ext'
  simp only [Array.toList_setIfInBounds]
  exact List.set_comm _ _ h
theorem st_run {w : World} {b off : Nat} {arr : Array Value} {T0 T : TypeId} {i : TypeInfo} {y : Value} (hb : w.heap[b]? = some (.cells arr T0 (0, 0))) (hi : P.info? T = some i) (his : i.size = y.cells.toList.length) (hfit : off + y.cells.toList.length ≤ arr.size)
    (h1 : ∀ u ∈ y.cells.toList, u.oneCell' = true) : (Instr.storeAt T (.pointer (some ⟨b, off, none⟩)) y).run P w = .ok () (setBlk w b (.cells (spl arr off y.cells.toList) T0 (0, 0))) := by
  have hst := run_storeCells_at P b off T0 y.cells.toList 0 arr w hb (by simpa using hfit) h1
  simp only [Nat.add_zero] at hst
  have hys : y.cells.size = i.size := by rw [his]; simp
  simp only [Instr.storeAt, Instr.sureAddr, storeVar, Sem.run_bind, Sem.run_pure, Result.andThen_ok, sizeOf, typeInfo]
  simp [hi, hys, hst, setRow_eq _ _ _ _ _ _ hb, spl]
/-- An operation that is run as it stands. -/
theorem raw_ok {ops : Array Oper} {o : Oper} {i : Nat} (ho : ops[i]? = some o) (hg : o.guard = none) (hd : ∀ c, o.op ≠ .defer c) {a : Act} {w w' : World} {y : Value} {r : Next} (hrun : (execOp a.eval o).run P w = .ok r w') (hr : r = .value y ∨ (r = .skip ∧ y = undef))
    {Q : Exit → Act → World → Prop} {K : Act → World → Prop} (hK : K (a.put o.dst y) w') : wpOpIn F.fence 3 P ops Q i K a w := by
  unfold wpOpIn
  simp only [ho]
  rw [if_pos (by simp [Region.wanted, hg])]
  refine ⟨fun f _ => fence_fn F f, ?_⟩
  rw [Oper.semAt_eq _ _ _ hd, hrun]
  rcases hr with rfl | ⟨rfl, rfl⟩ <;> exact hK
theorem put_eval {a : Act} {t x : Tmp} {y : Value} (h : x ≠ t) : (a.put (some t) y).eval (.tmp x) = a.eval (.tmp x) := by
  simp only [Act.put, Act.eval, Array.getD_eq_getD_getElem?, Array.getElem?_setIfInBounds]
  rw [if_neg (fun e => h e.symm)]
theorem put_same {a : Act} {t : Tmp} {y : Value} (h : t < a.tmps.size) : (a.put (some t) y).eval (.tmp t) = y := by
  simp [Act.put, Act.eval, Array.getD_eq_getD_getElem?, h]
/-- What comes behind an append of one element that is written afterwards. -/
def lateK (P : Program) (σ : Sto) (tS tX T Te Ts : TypeId) (vp vq vi vv va : AV) (KK : AV → Sto → Prop) : Prop :=
  ∃ (nl : Bool) (sz : Nat) (es : List AV) (k : Nat) (d : AV) (o off : Nat) (cs : List AV), vp = .slo nl sz es k ∧ (∃ u σ', aAppendO P σ tS tX nl sz es k vq = some (u, σ')) ∧ aSrcE P tX sz vq = some [d] ∧ vi = .val (.int .i64 (es.length : Nat)) ∧
    vv.cells.length = sz ∧ vv.cells.all AV.one = true ∧ (P.info? Te).map (·.size) = some sz ∧ tSize P T = some sz ∧ va = .ref o off ∧ σ[o]? = some (.cells cs) ∧ off + 1 ≤ cs.length ∧ (P.info? Ts).map (·.size) = some 1 ∧
    KK (.slo nl sz (es ++ [vv]) k) ((σ.set k (.cap (es.length + 1) sz)).set o (.cells (aSplice cs off [.slo nl sz (es ++ [vv]) k])))
/-- Edges of the four operations. -/
def lateB (ops : Array Oper) (s : Nat) : Bool :=
  blockB .any ops s 1 && decide (ops.size = s + 4) &&
  (match ops[s + 1]?, ops[s + 2]?, ops[s + 3]? with
   | some o1, some o2, some o3 => (edges .any o1).all (fun e => decide (e < s + 1)) && (edges .any o2).all (fun e => decide (e < s + 2)) && (edges .any o2).contains (s + 1) && (edges .any o3).all (fun e => decide (e < s + 3))
   | _, _, _ => false)
set_option maxHeartbeats 2000000 in
theorem ADraw.late {ops : Array Oper} {s : Nat} (hB : lateB ops s = true) {ta ti p q x1 x2 x3 : Tmp} {tS tX T Te Ts ty0 ty1 ty2 ty3 : TypeId} {pos0 pos1 pos2 pos3 : String} {af0 af1 af2 af3 : Array Edge} {env : Env} {σ : Sto} {K : Env → Sto → Prop}
    (hne : x1 ≠ ta ∧ x2 ≠ ta ∧ x3 ≠ ta ∧ x2 ≠ ti ∧ x3 ≠ ti ∧ ta ≠ ti ∧ ta < env.length ∧ ti < env.length)
    (h : lateK P σ tS tX T Te Ts (opnd Γ env (.tmp p)) (opnd Γ env (.tmp q)) (opnd Γ env (.tmp x1)) (opnd Γ env (.tmp x2)) (opnd Γ env (.tmp x3)) (fun v σ' => K (aput (aput env (some ta) v) (some ti) .any) σ')) :
    ADraw F P Γ ops s [⟨some ta, .call { callee := .builtin .append, args := #[.tmp p, .tmp q], argTypes := #[tS, tX] }, ty0, pos0, af0, none⟩, ⟨some ti, .indexAddr T (.tmp ta) (.tmp x1), ty1, pos1, af1, none⟩, ⟨none, .store Te (.tmp ti) (.tmp x2), ty2, pos2, af2, none⟩,
      ⟨none, .store Ts (.tmp x3) (.tmp ta), ty3, pos3, af3, none⟩] env σ K := by
  intro C a Q fuel listed hs hsz hL hf hl hd hq
  obtain ⟨n1, n2, n3, n4, n5, n6, n7, n8⟩ := hne
  obtain ⟨nl, sz, es, k, d, o, off, cs, hp, ⟨u, σ', happ⟩, hsrc, hi, hvl, hv1, hTe, hT, ha, hcs, hoff, hTs, hK⟩ := h
  unfold lateB at hB
  simp only [Bool.and_eq_true, decide_eq_true_eq] at hB
  obtain ⟨⟨hblk, hn⟩, hed⟩ := hB
  have ho0 : ops[s]? = some _ := (hl 0).symm
  have ho1 : ops[s + 1]? = some _ := (hl 1).symm
  have ho2 : ops[s + 2]? = some _ := (hl 2).symm
  have ho3 : ops[s + 3]? = some _ := (hl 3).symm
  rw [ho1, ho2, ho3] at hed
  simp only [Bool.and_eq_true] at hed
  obtain ⟨⟨⟨e1, e2⟩, e21⟩, e3⟩ := hed
  have hsize : env.length = a.tmps.size := by have := relL_length hs.L; simpa using this
  -- the append
  have hpx := opnd_ok hs.G hs.L (.tmp p)
  have hqx := opnd_ok hs.G hs.L (.tmp q)
  have hix := opnd_ok hs.G hs.L (.tmp x1)
  have hvx := opnd_ok hs.G hs.L (.tmp x2)
  have hax := opnd_ok hs.G hs.L (.tmp x3)
  rw [hp] at hpx
  rw [hi] at hix
  rw [ha] at hax
  have hix : a.eval (.tmp x1) = .int .i64 (es.length : Nat) := hix
  obtain ⟨_, hax⟩ := hax
  have hvc := cells_ok hvx hv1
  have hes : ∀ e ∈ es, e.cells.length = sz := by
    by_cases he : es = []
    · subst he
      exact fun _ h => by cases h
    · obtain ⟨_, _, _, _, _, h5⟩ := hpx
      obtain ⟨b, off, c, _, _, _, _, hr⟩ := h5 he
      exact relRow_sizes hr
  have hcap := (aAppendO_st happ hsrc).2
  rw [← hs.σ] at happ hcs hcap
  obtain ⟨D1, D, c, arr, U, hrun, hS1, hφ, hσ1, hb, hroom, hw, hσ, hE1, hE, hS, hV⟩ := late_ok (P := P) (ty := ty0) hs.S hpx hqx happ hsrc hvl hvc (ones_ok hvc hv1) hes
  let zv : Value := .slice (some ⟨D.φ k, 0, none⟩) (es.length + 1) c
  let ptr : Value := .pointer (some ⟨D.φ k, es.length * sz, none⟩)
  let a1 := a.put (some ta) zv
  let a2 := a1.put (some ti) ptr
  have hs1 : Stands F Γ D a1 (aput env (some ta) (.slo nl sz (es ++ [opnd Γ env (.tmp x2)]) k)) D.σ := hs.did hE hS hV (some ta)
  have hs2 : Stands F Γ D a2 (aput (aput env (some ta) (.slo nl sz (es ++ [opnd Γ env (.tmp x2)]) k)) (some ti) .any) D.σ := hs1.did (Ext.refl _) hS (v := .any) (y := ptr) trivial (some ti)
  have hok : o ≠ k := fun e => by rw [e, hcap] at hcs; cases hcs
  have hcsD : D.σ[o]? = some (.cells cs) := by
    rw [hσ, List.getElem?_set, if_neg (fun e => hok e.symm)]
    exact hcs
  -- the store of the row
  have hpo : RelV D (.ref o off) (.pointer (some ⟨D.φ o, off, none⟩)) := ⟨⟨_, hcsD, rfl⟩, rfl⟩
  have hax2 : a.eval (.tmp x3) = .pointer (some ⟨D.φ o, off, none⟩) := by
    rw [hax, (hE.ids o _ hcs rfl).1]
  obtain ⟨iS, hiS, hiS1⟩ := Option.map_eq_some_iff.1 hTs
  obtain ⟨iE, hiE, hiE1⟩ := Option.map_eq_some_iff.1 hTe
  have hst : aStore P D.σ Ts (.slo nl sz (es ++ [opnd Γ env (.tmp x2)]) k) (.ref o off) = some (D.σ.set o (.cells (aSplice cs off [.slo nl sz (es ++ [opnd Γ env (.tmp x2)]) k]))) := by
    simp only [aStore, hcsD, hTs, AV.cells, List.length_cons, List.length_nil, Nat.zero_add, List.all_cons, List.all_nil, AV.one, Bool.and_true, and_true, true_and]
    rw [if_pos hoff]
  obtain ⟨D3, hrun3, hσ3, hE3, hS3⟩ := aStore_ok (P := P) hS hpo hV hst
  obtain ⟨arro, To, hbo, hno, _, _⟩ := hS.cells o cs hcsD
  have hlimk : (D.lim k).isSome = true := by
    rw [lim_of (a := .cap (es.length + 1) sz) (by rw [hσ]; simp [get_lt hcap])]
    simp only [AO.lim]
    rw [if_neg (by omega)]
    rfl
  have hbc : D.φ k ≠ D.φ o := fun e => hok (hS.inj o k (by rw [lim_of hcsD]; rfl) hlimk e.symm)
  let X : Obj := .cells (spl arr (es.length * sz) (a.eval (.tmp x2)).cells.toList) U (0, 0)
  let Y : Obj := .cells (spl arro off zv.cells.toList) To (0, 0)
  have hw3 : D3.w = setBlk D.w (D.φ o) Y := by
    have := st_run (P := P) (T := Ts) (y := zv) (off := off) hbo hiS (by rw [hiS1]; rfl) (by show off + 1 ≤ _; omega) (by intro u hu; simp [zv, Value.cells] at hu; subst hu; rfl)
    exact (Result.ok.inj (hrun3.symm.trans this)).2
  let wd : Bool → Bool → World := fun f2 f3 => let w := if f2 then setBlk D1.w (D.φ k) X else D1.w; if f3 then setBlk w (D.φ o) Y else w
  have hwd : wd true true = D3.w := by rw [hw3, hw]; rfl
  have hbk : ∀ f3, (wd false f3).heap[D.φ k]? = some (.cells arr U (0, 0)) := by
    intro f3
    cases f3
    · exact hb
    · exact (setBlk_other _ _ _ _ hbc).trans hb
  have hbo1 : ∀ f2, (wd f2 false).heap[D.φ o]? = some (.cells arro To (0, 0)) := by
    have h0 : D1.w.heap[D.φ o]? = some (.cells arro To (0, 0)) := by
      rw [hw, setBlk_other _ _ _ _ hbc.symm] at hbo
      exact hbo
    intro f2
    cases f2
    · exact h0
    · exact (setBlk_other _ _ _ _ hbc.symm).trans h0
  have hw2 : ∀ f3, setBlk (wd false f3) (D.φ k) X = wd true f3 := by
    intro f3
    cases f3
    · rfl
    · exact setBlk_comm hbc.symm
  have hw1 : ∀ f2, setBlk (wd f2 false) (D.φ o) Y = wd f2 true := fun f2 => by cases f2 <;> rfl
  let act : Bool → Act := fun f1 => if f1 then a2 else a1
  have hsz1 : a1.tmps.size = a.tmps.size := by simp [a1, Act.put]
  have hev : ∀ f1, (act f1).eval (.tmp ta) = zv := by
    intro f1
    have h0 : a1.eval (.tmp ta) = zv := put_same (by rw [← hsize]; exact n7)
    cases f1
    · exact h0
    · exact (put_eval n6).trans h0
  have hev3 : ∀ f1, (act f1).eval (.tmp x3) = .pointer (some ⟨D.φ o, off, none⟩) := by
    intro f1
    have h0 : a1.eval (.tmp x3) = _ := (put_eval n3).trans hax2
    cases f1
    · exact h0
    · exact (put_eval n5).trans h0
  have hev2 : a2.eval (.tmp x2) = a.eval (.tmp x2) := (put_eval n4).trans (put_eval n2)
  have hevi : a2.eval (.tmp ti) = ptr := put_same (by rw [hsz1, ← hsize]; exact n8)
  obtain ⟨e, ie, hTu, hie, hies⟩ := of_tSize hT
  have r1 : ∀ w, (execOp a1.eval ⟨some ti, .indexAddr T (.tmp ta) (.tmp x1), ty1, pos1, af1, none⟩).run P w = .ok (.value ptr) w := by
    intro w
    have g1 : a1.eval (.tmp ta) = zv := hev false
    have g2 : a1.eval (.tmp x1) = .int .i64 (es.length : Nat) := (put_eval n1).trans hix
    have g3 : (Instr.indexAt T zv (.int .i64 (es.length : Nat))).run P w = .ok ptr w := by
      have hlt : ((es.length : Nat) : Int) < ((es.length + 1 : Nat) : Int) := by omega
      simp [zv, ptr, Instr.indexAt, run_underlying hTu, asIntOf, sizeOf, typeInfo, hie, hies, add_lit]
      try omega
    simp [execOp, g1, g2, g3]
  have r2 : ∀ f3, (execOp a2.eval ⟨none, .store Te (.tmp ti) (.tmp x2), ty2, pos2, af2, none⟩).run P (wd false f3) = .ok .skip (wd true f3) := by
    intro f3
    have hlen : (a.eval (.tmp x2)).cells.toList.length = sz := by rw [← relL_length hvc, hvl]
    have := st_run (P := P) (T := Te) (y := a.eval (.tmp x2)) (off := es.length * sz) (hbk f3) hiE (by rw [hiE1, hlen]) (by omega) (ones_ok hvc hv1)
    rw [hw2 f3] at this
    simp [execOp, hevi, hev2, ptr, this]
  have r3 : ∀ f1 f2, (execOp (act f1).eval ⟨none, .store Ts (.tmp x3) (.tmp ta), ty3, pos3, af3, none⟩).run P (wd f2 false) = .ok .skip (wd f2 true) := by
    intro f1 f2
    have := st_run (P := P) (T := Ts) (y := zv) (off := off) (hbo1 f2) hiS (by rw [hiS1]; rfl) (by show off + 1 ≤ _; omega) (by intro u hu; simp [zv, Value.cells] at hu; subst hu; rfl)
    rw [hw1 f2] at this
    simp [execOp, hev f1, hev3 f1, this]
  have fin : Q .normal a2 D3.w := by
    refine hq .normal _ _ ((Stands.post (C := D3) (env := aput (aput env (some ta) (.slo nl sz (es ++ [opnd Γ env (.tmp x2)]) k)) (some ti) .any) (σ := D3.σ) ?_ ⟨rfl, ?_⟩).trans (hE.trans hE3))
    · exact hs2.did hE3 hS3 (v := .any) (y := undef) trivial none
    · rw [hσ3, hσ, hs.σ]
      exact hK
  -- the three others, in whatever order
  have main : ∀ (fuel : Nat) (listed : Array Bool) (f1 f2 f3 : Bool), listed.size = ops.size → (∀ j, j < s + 1 → isL listed j = true) → isL listed (s + 1) = f1 → isL listed (s + 2) = f2 → isL listed (s + 3) = f3 → (f2 = true → f1 = true) →
      (if f1 then 0 else 1) + (if f2 then 0 else 1) + (if f3 then 0 else 1) ≤ fuel → wpAnyIn F.fence 3 P .any ops Q fuel listed (act f1) (wd f2 f3) := by
    intro fuel
    induction fuel with
    | zero =>
      intro listed f1 f2 f3 hsz h0 h1 h2 h3 _ hfuel
      cases f1 <;> cases f2 <;> cases f3 <;> simp at hfuel
      refine ⟨?_, by rw [hwd]; exact fin⟩
      rw [List.eq_nil_iff_forall_not_mem]
      intro i hi
      obtain ⟨g1, g2, _⟩ := (mem_ready hsz).1 hi
      rw [hn] at g1
      rcases Nat.lt_or_ge i (s + 1) with h | h
      · rw [h0 i h] at g2
        cases g2
      · rcases (show i = s + 1 ∨ i = s + 2 ∨ i = s + 3 by omega) with rfl | rfl | rfl
        · rw [h1] at g2; cases g2
        · rw [h2] at g2; cases g2
        · rw [h3] at g2; cases g2
    | succ fuel ih =>
      intro listed f1 f2 f3 hsz h0 h1 h2 h3 h21 hfuel
      refine ⟨fun hr => ?_, fun i hi => ?_⟩
      · have hno : ∀ i, i ∉ Region.ready .any ops listed := by rw [hr]; simp
        have hf1 : f1 = true := by
          cases f1 with
          | true => rfl
          | false =>
            exact absurd ((mem_ready hsz).2 ⟨by omega, h1, _, ho1, fun e he => h0 e (by simpa using List.all_eq_true.1 e1 e he)⟩) (hno (s + 1))
        subst hf1
        have hf2 : f2 = true := by
          cases f2 with
          | true => rfl
          | false =>
            exact absurd ((mem_ready hsz).2 ⟨by omega, h2, _, ho2, fun e he => by
              have : e < s + 2 := by simpa using List.all_eq_true.1 e2 e he
              rcases Nat.lt_or_ge e (s + 1) with h | h
              · exact h0 e h
              · rw [show e = s + 1 by omega, h1]⟩) (hno (s + 2))
        subst hf2
        have hf3 : f3 = true := by
          cases f3 with
          | true => rfl
          | false =>
            exact absurd ((mem_ready hsz).2 ⟨by omega, h3, _, ho3, fun e he => by
              have : e < s + 3 := by simpa using List.all_eq_true.1 e3 e he
              rcases Nat.lt_or_ge e (s + 1) with h | h
              · exact h0 e h
              · rcases (show e = s + 1 ∨ e = s + 2 by omega) with rfl | rfl
                · exact h1
                · exact h2⟩) (hno (s + 3))
        subst hf3
        rw [hwd]
        exact fin
      · obtain ⟨g1, g2, o', ho', g3⟩ := (mem_ready hsz).1 hi
        have hisz : i < listed.size := by omega
        have hset : ∀ j, isL (listed.setIfInBounds i true) j = (decide (j = i) || isL listed j) := fun j => isL_set hisz
        have hge : s + 1 ≤ i := by
          rcases Nat.lt_or_ge i (s + 1) with h | h
          · rw [h0 i h] at g2; cases g2
          · exact h
        rcases (show i = s + 1 ∨ i = s + 2 ∨ i = s + 3 by omega) with rfl | rfl | rfl
        · have hf1 : f1 = false := by rw [← h1, g2]
          subst hf1
          have hf2 : f2 = false := by
            cases f2 with
            | false => rfl
            | true => exact absurd (h21 rfl) (by simp)
          subst hf2
          refine raw_ok ho1 rfl (fun c h => by cases h) (r1 _) (.inl rfl) ?_
          refine ih _ true false f3 (by simpa using hsz) (fun j hj => by rw [hset, h0 j hj]; simp) (by rw [hset]; simp) (by rw [hset, h2]; simp) (by rw [hset, h3]; simp) (fun h => by cases h) (by simp at hfuel ⊢; omega)
        · have hf2 : f2 = false := by rw [← h2, g2]
          subst hf2
          have hf1 : f1 = true := by
            rw [ho2] at ho'
            cases ho'
            rw [← h1]
            exact g3 _ (by simpa using e21)
          subst hf1
          refine raw_ok ho2 rfl (fun c h => by cases h) (r2 _) (.inr ⟨rfl, rfl⟩) ?_
          refine ih _ true true f3 (by simpa using hsz) (fun j hj => by rw [hset, h0 j hj]; simp) (by rw [hset, h1]; simp) (by rw [hset]; simp) (by rw [hset, h3]; simp) (fun _ => rfl) (by simp at hfuel ⊢; omega)
        · have hf3 : f3 = false := by rw [← h3, g2]
          subst hf3
          refine raw_ok ho3 rfl (fun c h => by cases h) (r3 f1 f2) (.inr ⟨rfl, rfl⟩) ?_
          refine ih _ f1 f2 true (by simpa using hsz) (fun j hj => by rw [hset, h0 j hj]; simp) (by rw [hset, h1]; simp) (by rw [hset, h2]; simp) (by rw [hset]; simp) h21 (by simp at hfuel ⊢; omega)
  -- first the append alone
  have hBs := blockB_spec hblk
  have hnot : isL listed s = false := by rw [hL s (by omega)]; simp
  cases fuel with
  | zero => omega
  | succ f =>
    obtain ⟨o', ho', hed0⟩ := hBs.fit s (Nat.le_refl _) (by omega)
    refine ⟨fun hr => ?_, fun i hi => ?_⟩
    · exfalso
      have : s ∈ Region.ready .any ops listed := (mem_ready hsz).2 ⟨by omega, hnot, o', ho', fun e he => by
        have := hed0 e he
        rw [hL e (by omega)]
        simp [this]⟩
      rw [hr] at this
      cases this
    · obtain ⟨g1, g2, o'', ho'', g3⟩ := (mem_ready hsz).1 hi
      have hi : i = s := by
        rcases Nat.lt_trichotomy i s with h | h | h
        · rw [hL i g1] at g2
          simp [h] at g2
        · exact h
        · have := hd.anc (hBs.after i g1 (by omega) s (Nat.le_refl _) (by omega)) (fun o3 ho3 => by rw [ho''] at ho3; cases ho3; exact g3)
          rw [hnot] at this
          cases this
      subst hi
      refine raw_ok ho0 rfl (fun c h => by cases h) (w' := D1.w) (y := zv) (r := .value zv) ?_ (.inl rfl) ?_
      · simp [execOp, resolve, invoke, builtin, hrun, zv]
      · refine main f (listed.setIfInBounds i true) false false false (by simpa using hsz) (fun j hj => ?_) ?_ ?_ ?_ (fun h => by cases h) (by simp; omega)
        · rw [isL_set (by omega), hL j (by omega)]
          by_cases h : j = i
          · simp [h]
          · simp [show j < i by omega]
        · rw [isL_set (by omega), hL _ (by omega)]; simp
        · rw [isL_set (by omega), hL _ (by omega)]; simp
        · rw [isL_set (by omega), hL _ (by omega)]; simp
theorem AW.drawlate (hm : P.follows .mixedOrders = true) (m : Nat) {ts : List Nat} {id : Nat} {l : List Oper} {env : Env} {σ : Sto} {Q : Exit → Env → Sto → Prop} {ta ti p q x1 x2 x3 : Tmp} {tS tX T Te Ts ty0 ty1 ty2 ty3 : TypeId} {pos0 pos1 pos2 pos3 : String} {af0 af1 af2 af3 : Array Edge}
    (hb : blockB .any l.toArray 0 m = true) (hr : lateB l.toArray m = true) (hk : keepB l env ts = true)
    (hd : l.drop m = [⟨some ta, .call { callee := .builtin .append, args := #[.tmp p, .tmp q], argTypes := #[tS, tX] }, ty0, pos0, af0, none⟩, ⟨some ti, .indexAddr T (.tmp ta) (.tmp x1), ty1, pos1, af1, none⟩, ⟨none, .store Te (.tmp ti) (.tmp x2), ty2, pos2, af2, none⟩,
      ⟨none, .store Ts (.tmp x3) (.tmp ta), ty3, pos3, af3, none⟩]) (hne : x1 ≠ ta ∧ x2 ≠ ta ∧ x3 ≠ ta ∧ x2 ≠ ti ∧ x3 ≠ ti ∧ ta ≠ ti)
    (h : AQF P Γ false l.toArray σ (fun fe => lateK P σ tS tX T Te Ts (opndF Γ fe (.tmp p)) (opndF Γ fe (.tmp q)) (opndF Γ fe (.tmp x1)) (opndF Γ fe (.tmp x2)) (opndF Γ fe (.tmp x3)) (fun v σ' => ∀ env', Wk env' (setAll env ts (upd (upd fe (some ta) v) (some ti) .any)) → Q .normal env' σ')) (l.take m) (fun t => env.getD t .any)) :
    AW F P Γ (.region id l.toArray true) env σ Q := by
  refine AW.draw hm ?_
  refine ADraw.block false m hb ?_
  refine AQ.mono ?_ (AQF.q (keepB_sub hk fun o ho => ⟨o, List.mem_of_mem_take ho, rfl⟩) (Agr.start env (dstsOf l)) h)
  rintro env' ⟨fe, h1, h2⟩
  have hdst := keepB_sub (l' := l.drop m) hk fun o ho => ⟨o, List.mem_of_mem_drop ho, rfl⟩
  rw [hd] at hdst ⊢
  have da := hdst _ List.mem_cons_self ta rfl
  have di := hdst _ (List.mem_cons_of_mem _ List.mem_cons_self) ti rfl
  obtain ⟨n1, n2, n3, n4, n5, n6⟩ := hne
  rw [Nat.zero_add]
  refine ADraw.late hr ⟨n1, n2, n3, n4, n5, n6, by rw [h2.len]; exact da.1, by rw [h2.len]; exact di.1⟩ ?_
  rw [opndF_eq h2.get] at h1
  obtain ⟨nl, sz, es, k, d, o, off, cs, g1, g2, g3, g4, g5, g6, g7, g8, g9, g10, g11, g12, g13⟩ := h1
  refine ⟨nl, sz, es, k, d, o, off, cs, g1, g2, g3, g4, g5, g6, g7, g8, g9, g10, g11, g12, ?_⟩
  refine g13 _ (Agr.wk hk ((h2.upd (d := some ta) (fun t e => by cases e; exact da) _).upd (d := some ti) (fun t e => by cases e; exact di) _))
theorem AW.reglate (hm : P.follows .mixedOrders = true) (ts : List Nat) (m : Nat) {id : Nat} {l : List Oper} {y : Code} {env : Env} {σ : Sto} {Q : Exit → Env → Sto → Prop} {ta ti p q x1 x2 x3 : Tmp} {tS tX T Te Ts ty0 ty1 ty2 ty3 : TypeId} {pos0 pos1 pos2 pos3 : String} {af0 af1 af2 af3 : Array Edge}
    (hb : blockB .any l.toArray 0 m = true) (hr : lateB l.toArray m = true) (hk : keepB l env ts = true)
    (hd : l.drop m = [⟨some ta, .call { callee := .builtin .append, args := #[.tmp p, .tmp q], argTypes := #[tS, tX] }, ty0, pos0, af0, none⟩, ⟨some ti, .indexAddr T (.tmp ta) (.tmp x1), ty1, pos1, af1, none⟩, ⟨none, .store Te (.tmp ti) (.tmp x2), ty2, pos2, af2, none⟩,
      ⟨none, .store Ts (.tmp x3) (.tmp ta), ty3, pos3, af3, none⟩]) (hne : x1 ≠ ta ∧ x2 ≠ ta ∧ x3 ≠ ta ∧ x2 ≠ ti ∧ x3 ≠ ti ∧ ta ≠ ti)
    (h : ∀ K : List AV → Sto → Prop, (∀ vs σ', AW F P Γ y (setL env ts vs) σ' Q → K vs σ') → AQF P Γ false l.toArray σ (fun fe => lateK P σ tS tX T Te Ts (opndF Γ fe (.tmp p)) (opndF Γ fe (.tmp q)) (opndF Γ fe (.tmp x1)) (opndF Γ fe (.tmp x2)) (opndF Γ fe (.tmp x3)) (fun v σ' => K (ts.map (upd (upd fe (some ta) v) (some ti) .any)) σ')) (l.take m) (fun t => env.getD t .any)) :
    AW F P Γ (.seq (.region id l.toArray true) y) env σ Q := by
  refine AW.seq (AW.drawlate hm m hb hr hk hd hne ?_)
  have := h (fun vs σ' => ∀ fe, vs = ts.map fe → ∀ env', Wk env' (setAll env ts fe) → AW F P Γ y env' σ' Q) (fun vs σ' hy fe e env' hw => AW.weaken hw (by rw [← setL_map, ← e]; exact hy))
  refine AQF.mono (fun fe h => ?_) this
  obtain ⟨nl, sz, es, k, d, o, off, cs, g1, g2, g3, g4, g5, g6, g7, g8, g9, g10, g11, g12, g13⟩ := h
  exact ⟨nl, sz, es, k, d, o, off, cs, g1, g2, g3, g4, g5, g6, g7, g8, g9, g10, g11, g12, g13 _ rfl⟩
theorem run_func_nil {w : World} {T U : TypeId} {ps rs : Array TypeId} {va : Bool} (hT : P.underlying T = some (.func ps rs va)) {ρ : Operand → Value} {t : Tmp} {f : Fn} {fi cs : Array Value} (ht : ρ (.tmp t) = .func f fi cs) (hn : ρ (.const .nilFunc) = .nilFunc) {d : Option Tmp} {pos : String} {af : Array Edge} {ty : TypeId} :
    (execOp ρ ⟨d, .binOp .eql T (.tmp t) (.const .nilFunc) U, ty, pos, af, none⟩).run P w = .ok (.value (.bool false)) w := by
  have he : (Op.equal T (.func f fi cs) .nilFunc).run P w = .ok false w := by
    unfold Op.equal Op.maxDepth
    unfold Op.equalIn
    simp [run_underlying hT]
  simp only [execOp, ht, hn]
  simp [eqGuard, binOp, he]
/-- A function held against nil. -/
theorem AW.fnnil {id : Nat} {t b g : Tmp} {T U ty0 ty1 : TypeId} {pos0 pos1 : String} {af0 af1 : Array Edge} {f : FuncId} {caps : List AV} {y : Code} {env : Env} {σ : Sto} {Q : Exit → Env → Sto → Prop} {ps rs : Array TypeId} {va : Bool} (hT : P.underlying T = some (.func ps rs va)) (hg : env[g]? = some (.fn f caps)) (ht : env[t]? = some .any)
    (k : AW F P Γ y (env.set b (.val (.bool false))) σ Q) : AW F P Γ (.seq (.region id #[⟨some t, .move (.tmp g), ty0, pos0, af0, none⟩, ⟨some b, .binOp .eql T (.tmp t) (.const .nilFunc) U, ty1, pos1, af1, none⟩] false) y) env σ Q := by
  have htl : t < List.length env := (List.getElem?_eq_some_iff.1 ht).1
  refine AW.seq (AW.region (l := [_, _]) ?_)
  refine AOps.op (md := false) (want_none rfl) (v := .fn f caps) (σ' := σ) ?_ ?_
  · have hgo : opnd Γ env (.tmp g) = .fn f caps := by simp [opnd, List.getD_eq_getElem?_getD, hg]
    simp [aop, hgo]
  · intro C a Q hs hq
    unfold wpListIn
    rw [if_pos (by simp [Region.wanted])]
    refine ⟨fun f _ => fence_fn F f, ?_⟩
    have hx := opnd_ok hs.G hs.L (.tmp t)
    have hxv : opnd Γ (aput env (some t) (.fn f caps)) (.tmp t) = .fn f caps := by simp [opnd, aput, List.getD_eq_getElem?_getD, htl]
    rw [hxv] at hx
    obtain ⟨xs, hx, _⟩ := hx
    rw [Oper.semAt_eq _ _ _ (fun c e => by cases e), run_func_nil hT hx rfl]
    have hs2 := hs.did (Ext.refl _) hs.S (v := .val (.bool false)) (y := .bool false) rfl (some b)
    refine hq .normal _ _ ((hs2.post ⟨rfl, ?_⟩))
    rw [hs.σ]
    refine AW.weaken ?_ k
    refine wk_of (by simp [aput]) fun j => ?_
    simp only [aput, List.getD_eq_getElem?_getD, List.getElem?_set]
    by_cases hjb : b = j
    · subst hjb
      simp
    · simp only [hjb, if_false]
      by_cases hjt : t = j
      · subst hjt
        left
        simp [ht]
      · simp [hjt]
theorem lateK.of {σ : Sto} {tS tX T Te Ts : TypeId} {vq vv d u : AV} {σ' : Sto} {KK : AV → Sto → Prop} {nl : Bool} {sz : Nat} {es : List AV} {k o off : Nat} {cs : List AV} {n : Int} (ha : aAppendO P σ tS tX nl sz es k vq = some (u, σ')) (hs : aSrcE P tX sz vq = some [d]) (hn : n = (es.length : Nat))
    (hv : vv.cells.length = sz) (h1 : vv.cells.all AV.one = true) (hTe : (P.info? Te).map (·.size) = some sz) (hT : tSize P T = some sz) (ho : σ[o]? = some (.cells cs)) (hoff : off + 1 ≤ cs.length) (hTs : (P.info? Ts).map (·.size) = some 1)
    (hk : KK (.slo nl sz (es ++ [vv]) k) ((σ.set k (.cap (es.length + 1) sz)).set o (.cells (aSplice cs off [.slo nl sz (es ++ [vv]) k])))) :
    lateK P σ tS tX T Te Ts (.slo nl sz es k) vq (.val (.int .i64 n)) vv (.ref o off) KK :=
  ⟨nl, sz, es, k, d, o, off, cs, rfl, ⟨u, σ', ha⟩, hs, by rw [hn], hv, h1, hTe, hT, rfl, ho, hoff, hTs, hk⟩
end Go.Proofs.Ev
