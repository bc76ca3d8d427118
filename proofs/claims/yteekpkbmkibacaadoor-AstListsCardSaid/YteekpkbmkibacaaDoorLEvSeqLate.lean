import Derived.Test.YteekpkbmkibacaaDoorLEvSeqm
/-! An element that is appended in one region and written in the next; a live row that becomes one with the right to append. -/
namespace Go.Proofs.Ev
set_option linter.unusedSimpArgs false
set_option linter.unusedVariables false
open Go
variable {F : Fr} {P : Program} {Γ : List (Nat × List AV)}
theorem ARun.wp {md : Bool} {ops : Array Oper} {K' : Env → Sto → Prop} {l2 : List Oper} {Q : Exit → Act → World → Prop} : ∀ {l : List Oper} {env : Env} {σ : Sto}, (∀ o ∈ l, callVal o.op = false) → ARun P Γ md ops K' l env σ → ∀ C a, Stands F Γ C a env σ →
    (∀ D a' env', Ext C D → Stands F Γ D a' env' D.σ → K' env' D.σ → wpListIn F.fence 3 P ops Q l2 a' D.w) → wpListIn F.fence 3 P ops Q (l ++ l2) a C.w
  | [], env, σ, _, h, C, a, hs, k => k C a env (Ext.refl C) (by rw [hs.σ]; exact hs) (by rw [hs.σ]; exact h)
  | o :: rest, env, σ, hc, h, C, a, hs, k => by
    have hr := fun o' h' => hc o' (List.mem_cons_of_mem _ h')
    have ho := hc o List.mem_cons_self
    rw [List.cons_append]
    unfold ARun at h
    unfold wpListIn
    split at h
    · rename_i hw
      rw [if_neg (by rw [aWanted_ok hs.L hw]; simp)]
      refine ⟨fun f _ => fence_fn F f, ?_⟩
      exact ARun.wp hr h C _ ⟨hs.σ, hs.S, hs.G, aput_rel hs.L (show RelV C (.val undef) undef from rfl), by rw [put_defers]; exact hs.D⟩ k
    · rename_i hw
      rw [if_pos (by rw [aWanted_ok hs.L hw])]
      split at h
      · rename_i x as ts hop
        rw [hop] at ho
        cases ho
      · split at h
        · rename_i v σ' hop
          obtain ⟨r, y, D, hrun, hr', k1, k2, k3, k4⟩ := aop_ok hs.S hs.G hs.L o (by rw [hs.σ]; exact hop)
          refine ⟨fun f _ => fence_fn F f, ?_⟩
          have hgo : wpListIn F.fence 3 P ops Q (rest ++ l2) (a.put o.dst y) D.w :=
            ARun.wp hr h D _ (by have := hs.did k2 k3 k4 o.dst; rw [k1] at this; exact this) fun E a' env' e1 e2 e3 => k E a' env' (k2.trans e1) e2 e3
          rw [Oper.semAt_eq _ _ _ (fun c e => by rw [e] at hop; simp [aop] at hop), hrun]
          rcases hr' with rfl | ⟨rfl, rfl⟩ <;> exact hgo
        · exact h.elim
    · exact h.elim
/-- One operation that is run as it stands. -/
theorem raw_list {ops : Array Oper} {o : Oper} {rest : List Oper} (hg : o.guard = none) (hd : ∀ c, o.op ≠ .defer c) {a : Act} {w w' : World} {y : Value} {r : Next} (hrun : (execOp a.eval o).run P w = .ok r w') (hr : r = .value y ∨ (r = .skip ∧ y = undef))
    {Q : Exit → Act → World → Prop} (hK : wpListIn F.fence 3 P ops Q rest (a.put o.dst y) w') : wpListIn F.fence 3 P ops Q (o :: rest) a w := by
  unfold wpListIn
  rw [if_pos (by simp [Region.wanted, hg])]
  refine ⟨fun f _ => fence_fn F f, ?_⟩
  rw [Oper.semAt_eq _ _ _ hd, hrun]
  rcases hr with rfl | ⟨rfl, rfl⟩ <;> exact hK
/-- Operations that only reckon addresses of what lives. -/
def adr1 (P : Program) (Γ : List (Nat × List AV)) (env : Env) (op : Op) : Option AV := match op with
  | .fieldAddr S x f => aFieldAddr P S f (opnd Γ env x)
  | .indexAddr T x i => aIndexAddr P T (opnd Γ env x) (opnd Γ env i)
  | _ => none
def adrs (P : Program) (Γ : List (Nat × List AV)) (ks : List Tmp) : List Oper → Env → Option Env
  | [], env => some env
  | o :: l, env => match o.guard, o.dst, adr1 P Γ env o.op with
    | none, some t, some (.ref i off) => if ks.contains t = false then adrs P Γ ks l (env.set t (.ref i off)) else none
    | _, _, _ => none
theorem adr1_run {C : Ctx} {env : Env} {a : Act} (hG : RelG C Γ) (hL : RelL C env a.tmps.toList) {o : Oper} {v : AV} (h : adr1 P Γ env o.op = some v) : ∃ y, (execOp a.eval o).run P C.w = .ok (.value y) C.w ∧ RelV C v y := by
  unfold adr1 at h
  split at h
  · rename_i S x f hop
    obtain ⟨y, h1, h2⟩ := aFieldAddr_ok (opnd_ok hG hL x) h
    exact ⟨y, by simp [execOp, hop, h1], h2⟩
  · rename_i T x i hop
    obtain ⟨y, h1, h2⟩ := aIndexAddr_ok (opnd_ok hG hL x) (opnd_ok hG hL i) h
    exact ⟨y, by simp [execOp, hop, h1], h2⟩
  · cases h
theorem adrs_run {ks : List Tmp} {ops : Array Oper} {Q : Exit → Act → World → Prop} {l2 : List Oper} {D1 D : Ctx} (hφ : D1.φ = D.φ) (hσ : D1.σ = D.σ) (hG : RelG D1 Γ) (hG' : RelG D Γ) : ∀ (l : List Oper) (env env' : Env) (a : Act), adrs P Γ ks l env = some env' → RelL D1 env a.tmps.toList → RelL D env a.tmps.toList →
    (∀ a', RelL D1 env' a'.tmps.toList → RelL D env' a'.tmps.toList → (∀ x, ks.contains x = true → a'.eval (.tmp x) = a.eval (.tmp x)) → a'.tmps.size = a.tmps.size → a'.defers = a.defers → wpListIn F.fence 3 P ops Q l2 a' D1.w) → wpListIn F.fence 3 P ops Q (l ++ l2) a D1.w
  | [], env, env', a, h, h1, h2, k => by
    cases h
    exact k a h1 h2 (fun _ _ => rfl) rfl rfl
  | o :: l, env, env', a, h, h1, h2, k => by
    unfold adrs at h
    split at h <;> try (cases h; done)
    rename_i t i off hg hd hop
    split at h <;> try (cases h; done)
    rename_i hne
    obtain ⟨y, r1, r2⟩ := adr1_run hG h1 hop
    have r3 : RelV D (.ref i off) y := by
      obtain ⟨⟨x, g1, g2⟩, g3⟩ := r2
      exact ⟨⟨x, by rw [← hσ]; exact g1, g2⟩, by rw [g3, hφ]⟩
    have hdf : ∀ c, o.op ≠ .defer c := fun c e => by rw [e] at hop; cases hop
    rw [List.cons_append]
    refine raw_list hg hdf r1 (.inl rfl) ?_
    rw [hd]
    refine adrs_run hφ hσ hG hG' l _ env' (a.put (some t) y) h (aput_rel (d := some t) h1 r2) (aput_rel (d := some t) h2 r3) fun a' k1 k2 k3 k4 k5 => k a' k1 k2 (fun x hx => (k3 x hx).trans (put_eval (fun e => by rw [e, hne] at hx; cases hx))) (k4.trans (by simp [Act.put])) k5
/-- What comes behind an append of one element that the next region writes. -/
def seqK (P : Program) (Γ : List (Nat × List AV)) (adr : List Oper) (σ : Sto) (env : Env) (tS tX T Te Ts : TypeId) (ta p q x1 x2 x3 : Tmp) (KK : Env → Sto → Prop) : Prop :=
  ∃ (nl : Bool) (sz : Nat) (es : List AV) (k : Nat) (d v : AV) (o off : Nat) (cs : List AV) (env' : Env), opnd Γ env (.tmp p) = .slo nl sz es k ∧ (∃ u σ', aAppendO P σ tS tX nl sz es k (opnd Γ env (.tmp q)) = some (u, σ')) ∧ aSrcE P tX sz (opnd Γ env (.tmp q)) = some [d] ∧
    opnd Γ env (.tmp x1) = .val (.int .i64 (es.length : Nat)) ∧ opnd Γ env (.tmp x2) = v ∧ v.cells.length = sz ∧ v.cells.all AV.one = true ∧ (P.info? Te).map (·.size) = some sz ∧ tSize P T = some sz ∧
    adrs P Γ [ta, x1, x2] adr (env.set ta .any) = some env' ∧ opnd Γ env' (.tmp x3) = .ref o off ∧ σ[o]? = some (.cells cs) ∧ off + 1 ≤ cs.length ∧ (P.info? Ts).map (·.size) = some 1 ∧
    KK env' ((σ.set k (.cap (es.length + 1) sz)).set o (.cells (aSplice cs off [.slo nl sz (es ++ [v]) k])))
theorem seqK.of {adr : List Oper} {σ : Sto} {env env' : Env} {tS tX T Te Ts : TypeId} {ta p q x1 x2 x3 : Tmp} {KK : Env → Sto → Prop} {nl : Bool} {sz : Nat} {es : List AV} {k : Nat} {d v u : AV} {σ' : Sto} {o off : Nat} {cs : List AV} (hp : opnd Γ env (.tmp p) = .slo nl sz es k) (happ : aAppendO P σ tS tX nl sz es k (opnd Γ env (.tmp q)) = some (u, σ')) (hsrc : aSrcE P tX sz (opnd Γ env (.tmp q)) = some [d])
    (hi : opnd Γ env (.tmp x1) = .val (.int .i64 (es.length : Nat))) (hv : opnd Γ env (.tmp x2) = v) (hvl : v.cells.length = sz) (hv1 : v.cells.all AV.one = true) (hTe : (P.info? Te).map (·.size) = some sz) (hT : tSize P T = some sz)
    (hadr : adrs P Γ [ta, x1, x2] adr (env.set ta .any) = some env') (ha : opnd Γ env' (.tmp x3) = .ref o off) (hcs : σ[o]? = some (.cells cs)) (hoff : off + 1 ≤ cs.length) (hTs : (P.info? Ts).map (·.size) = some 1)
    (hk : KK env' ((σ.set k (.cap (es.length + 1) sz)).set o (.cells (aSplice cs off [.slo nl sz (es ++ [v]) k])))) : seqK P Γ adr σ env tS tX T Te Ts ta p q x1 x2 x3 KK :=
  ⟨nl, sz, es, k, d, v, o, off, cs, env', hp, ⟨u, σ', happ⟩, hsrc, hi, hv, hvl, hv1, hTe, hT, hadr, ha, hcs, hoff, hTs, hk⟩
set_option maxHeartbeats 1000000 in
theorem AW.seqlate (m : Nat) {id1 id2 : Nat} {l adr : List Oper} {env : Env} {σ : Sto} {Q : Exit → Env → Sto → Prop} {ta ti p q x1 x2 x3 : Tmp} {tS tX T Te Ts ty0 ty1 ty2 ty3 : TypeId} {pos0 pos1 pos2 pos3 : String} {af0 af1 af2 af3 : Array Edge}
    (hd : l.drop m = ⟨some ta, .call { callee := .builtin .append, args := #[.tmp p, .tmp q], argTypes := #[tS, tX] }, ty0, pos0, af0, none⟩ :: (adr ++ [⟨none, .store Ts (.tmp x3) (.tmp ta), ty3, pos3, af3, none⟩]))
    (hc : (l.take m).all (fun o => !callVal o.op) = true) (hne : x1 ≠ ta ∧ x2 ≠ ta ∧ x2 ≠ ti ∧ ta ≠ ti ∧ ta < env.length ∧ ti < env.length)
    (h : ARun P Γ false l.toArray (fun env0 σ1 => ∃ env1, Wk env0 env1 ∧ env1.length = env.length ∧ seqK P Γ adr σ1 env1 tS tX T Te Ts ta p q x1 x2 x3 (fun env' σ' => Q .normal (env'.set ti .any) σ')) (l.take m) env σ) :
    AW F P Γ (.seq (.region id1 l.toArray false) (.region id2 #[⟨some ti, .indexAddr T (.tmp ta) (.tmp x1), ty1, pos1, af1, none⟩, ⟨none, .store Te (.tmp ti) (.tmp x2), ty2, pos2, af2, none⟩] false)) env σ Q := by
  intro C0 a0 hs0
  refine wpIn_seq ?_
  refine wpIn_region_lit ?_
  have key := fun Q1 => ARun.wp (F := F) (l2 := l.drop m) (Q := Q1) (fun o ho => by simpa using List.all_eq_true.1 hc o ho) h C0 a0 hs0
  rw [List.take_append_drop] at key
  refine key _ ?_
  intro C a env0 hE0 hs hK
  rw [hd]
  obtain ⟨env1, hwk, hK⟩ := hK
  have hs := hs.weaken hwk
  obtain ⟨hlen1, nl, sz, es, k, d, v, o, off, cs, env', hp, ⟨u, σ', happ⟩, hsrc, hi, hv, hvl, hv1, hTe, hT, hadr, ha, hcs, hoff, hTs, hK⟩ := hK
  obtain ⟨n1, n2, n4, n6, n7, n8⟩ := hne
  have hsize : env1.length = a.tmps.size := by have := relL_length hs.L; simpa using this
  have hpx := opnd_ok hs.G hs.L (.tmp p)
  have hqx := opnd_ok hs.G hs.L (.tmp q)
  have hix := opnd_ok hs.G hs.L (.tmp x1)
  have hvx := opnd_ok hs.G hs.L (.tmp x2)
  rw [hp] at hpx
  rw [hi] at hix
  rw [hv] at hvx
  have hix : a.eval (.tmp x1) = .int .i64 (es.length : Nat) := hix
  have hvc := cells_ok hvx hv1
  have hes : ∀ e ∈ es, e.cells.length = sz := by
    by_cases he : es = []
    · subst he
      exact fun _ h => by cases h
    · obtain ⟨_, _, _, _, _, h5⟩ := hpx
      obtain ⟨b, off, c, _, _, _, _, hr⟩ := h5 he
      exact relRow_sizes hr
  have hcap := (aAppendO_st happ hsrc).2
  obtain ⟨D1, D, c, arr, U, hrun, hS1, hφ, hσ1, hb, hroom, hw, hσ, hE1, hE, hS, hV⟩ := late_ok (P := P) (ty := ty0) hs.S hpx hqx happ hsrc hvl hvc (ones_ok hvc hv1) hes
  let zv : Value := .slice (some ⟨D.φ k, 0, none⟩) (es.length + 1) c
  let ptr : Value := .pointer (some ⟨D.φ k, es.length * sz, none⟩)
  let a1 := a.put (some ta) zv
  have hL1 : RelL D1 (env1.set ta .any) a1.tmps.toList := aput_rel (d := some ta) (RelL.mono hE1 hs.L) (v := .any) (y := zv) trivial
  have hL2 : RelL D (env1.set ta .any) a1.tmps.toList := aput_rel (d := some ta) (RelL.mono hE hs.L) (v := .any) (y := zv) trivial
  refine raw_list rfl (fun c h => by cases h) (w' := D1.w) (y := zv) (r := .value zv) (by simp [execOp, resolve, invoke, builtin, hrun, zv]) (.inl rfl) ?_
  refine adrs_run hφ hσ1 (RelG.mono hE1 hs.G) (RelG.mono hE hs.G) adr _ env' a1 hadr hL1 hL2 ?_
  intro a2 k1 k2 k3 k4 k5
  have hta1 : a1.eval (.tmp ta) = zv := put_same (by rw [← hsize, hlen1]; exact n7)
  have hta : a2.eval (.tmp ta) = zv := (k3 ta (by simp)).trans hta1
  have hx1 : a2.eval (.tmp x1) = .int .i64 (es.length : Nat) := (k3 x1 (by simp)).trans ((put_eval n1).trans hix)
  have hx2 : a2.eval (.tmp x2) = a.eval (.tmp x2) := (k3 x2 (by simp)).trans (put_eval n2)
  have hok : o ≠ k := fun e => by rw [e, hcap] at hcs; cases hcs
  have hcsD : D.σ[o]? = some (.cells cs) := by
    rw [hσ, List.getElem?_set, if_neg (fun e => hok e.symm), hs.σ]
    exact hcs
  have hpo : RelV D (.ref o off) (.pointer (some ⟨D.φ o, off, none⟩)) := ⟨⟨_, hcsD, rfl⟩, rfl⟩
  have hx3 : a2.eval (.tmp x3) = .pointer (some ⟨D.φ o, off, none⟩) := by
    have := opnd_ok (RelG.mono hE hs.G) k2 (.tmp x3)
    rw [ha] at this
    exact this.2
  obtain ⟨iS, hiS, hiS1⟩ := Option.map_eq_some_iff.1 hTs
  obtain ⟨iE, hiE, hiE1⟩ := Option.map_eq_some_iff.1 hTe
  have hst : aStore P D.σ Ts (.slo nl sz (es ++ [v]) k) (.ref o off) = some (D.σ.set o (.cells (aSplice cs off [.slo nl sz (es ++ [v]) k]))) := by
    simp only [aStore, hcsD, hTs, AV.cells, List.length_cons, List.length_nil, Nat.zero_add, List.all_cons, List.all_nil, AV.one, Bool.and_true, and_true, true_and]
    rw [if_pos hoff]
  obtain ⟨D3, hrun3, hσ3, hE3, hS3⟩ := aStore_ok (P := P) hS hpo hV hst
  obtain ⟨arro, To, hbo, hno, _, _⟩ := hS.cells o cs hcsD
  have hlimk : (D.lim k).isSome = true := by
    rw [lim_of (a := .cap (es.length + 1) sz) (by rw [hσ]; simp [get_lt hcap])]
    simp only [AO.lim]
    rw [if_neg (by omega)]
    rfl
  have hbc : D.φ k ≠ D.φ o := fun e => hok (hS.inj o k (by rw [lim_of hcsD]; rfl) hlimk e.symm)
  let X : Obj := .cells (spl arr (es.length * sz) (a.eval (.tmp x2)).cells.toList) U (0, 0)
  let Y : Obj := .cells (spl arro off zv.cells.toList) To (0, 0)
  have hw3 : D3.w = setBlk D.w (D.φ o) Y := by
    have := st_run (P := P) (T := Ts) (y := zv) (off := off) hbo hiS (by rw [hiS1]; rfl) (by show off + 1 ≤ _; omega) (by intro u hu; simp [zv, Value.cells] at hu; subst hu; rfl)
    exact (Result.ok.inj (hrun3.symm.trans this)).2
  have hbo1 : D1.w.heap[D.φ o]? = some (.cells arro To (0, 0)) := by
    rw [hw, setBlk_other _ _ _ _ hbc.symm] at hbo
    exact hbo
  have hbk : (setBlk D1.w (D.φ o) Y).heap[D.φ k]? = some (.cells arr U (0, 0)) := (setBlk_other _ _ _ _ hbc).trans hb
  have hwX : setBlk (setBlk D1.w (D.φ o) Y) (D.φ k) X = D3.w := by
    rw [hw3, hw]
    exact setBlk_comm hbc.symm
  have r3 : (execOp a2.eval ⟨none, .store Ts (.tmp x3) (.tmp ta), ty3, pos3, af3, none⟩).run P D1.w = .ok .skip (setBlk D1.w (D.φ o) Y) := by
    have := st_run (P := P) (T := Ts) (y := zv) (off := off) hbo1 hiS (by rw [hiS1]; rfl) (by show off + 1 ≤ _; omega) (by intro u hu; simp [zv, Value.cells] at hu; subst hu; rfl)
    simp [execOp, hta, hx3, this]
    rfl
  refine raw_list rfl (fun c h => by cases h) r3 (y := undef) (.inr ⟨rfl, rfl⟩) ?_
  refine wpListIn_nil ?_
  refine wpIn_region_lit ?_
  obtain ⟨e, ie, hTu, hie, hies⟩ := of_tSize hT
  have r1 : ∀ w, (execOp a2.eval ⟨some ti, .indexAddr T (.tmp ta) (.tmp x1), ty1, pos1, af1, none⟩).run P w = .ok (.value ptr) w := by
    intro w
    have g3 : (Instr.indexAt T zv (.int .i64 (es.length : Nat))).run P w = .ok ptr w := by
      have hlt : ((es.length : Nat) : Int) < ((es.length + 1 : Nat) : Int) := by omega
      simp [zv, ptr, Instr.indexAt, run_underlying hTu, asIntOf, sizeOf, typeInfo, hie, hies, add_lit]
      try omega
    simp [execOp, hta, hx1, g3]
  let a3 := a2.put (some ti) ptr
  have hevi : a3.eval (.tmp ti) = ptr := put_same (by rw [k4]; simp only [a1, Act.put, Array.size_setIfInBounds]; rw [← hsize, hlen1]; exact n8)
  have hev2 : a3.eval (.tmp x2) = a.eval (.tmp x2) := (put_eval n4).trans hx2
  have r2 : (execOp a3.eval ⟨none, .store Te (.tmp ti) (.tmp x2), ty2, pos2, af2, none⟩).run P (setBlk D1.w (D.φ o) Y) = .ok .skip D3.w := by
    have hlen : (a.eval (.tmp x2)).cells.toList.length = sz := by rw [← relL_length hvc, hvl]
    have := st_run (P := P) (T := Te) (y := a.eval (.tmp x2)) (off := es.length * sz) hbk hiE (by rw [hiE1, hlen]) (by omega) (ones_ok hvc hv1)
    rw [hwX] at this
    simp [execOp, hevi, hev2, ptr, this]
  refine raw_list rfl (fun c h => by cases h) (r1 _) (.inl rfl) ?_
  refine raw_list rfl (fun c h => by cases h) r2 (y := undef) (.inr ⟨rfl, rfl⟩) ?_
  refine wpListIn_nil ?_
  have hdf : a3.defers = a.defers := by
    show (a2.put _ _).defers = _
    rw [put_defers, k5]
    exact put_defers a (some ta) zv
  have hE03 := hE0.trans (hE.trans hE3)
  refine ⟨D3, env'.set ti .any, rfl, hE03, hS3, RelG.mono (hE.trans hE3) hs.G, ?_, ?_, ?_⟩
  · show RelL D3 (env'.set ti .any) (a3.put none undef).tmps.toList
    exact aput_rel (d := some ti) (RelL.mono hE3 k2) (v := .any) (y := ptr) trivial
  · show DOk F D3 (a3.put none undef).defers
    rw [put_defers, hdf]
    exact (hs.D.mono hE).mono hE3
  · rw [hσ3, hσ, hs.σ]
    exact hK
theorem setL_length : ∀ (ts : List Nat) (vs : List AV) (env : Env), (setL env ts vs).length = env.length
  | [], vs, env => by cases env <;> cases vs <;> rfl
  | t :: ts, [], env => by rw [setL_nil]
  | t :: ts, v :: vs, env => by rw [setL, setL_length ts vs]; simp
/-- The same, told by the temporaries ts that the append and what is behind it read. -/
theorem AW.lastseql (ts : List Nat) (m c : Nat) {id1 id2 : Nat} {l : List Oper} {env : Env} {σ : Sto} {Q : Exit → Env → Sto → Prop} {ta ti p q x1 x2 x3 : Tmp} {tS tX T Te Ts ty0 ty1 ty2 ty3 : TypeId} {pos0 pos1 pos2 pos3 : String} {af0 af1 af2 af3 : Array Edge}
    (hd : l.drop m = ⟨some ta, .call { callee := .builtin .append, args := #[.tmp p, .tmp q], argTypes := #[tS, tX] }, ty0, pos0, af0, none⟩ :: ((l.drop (m + 1)).take c ++ [⟨none, .store Ts (.tmp x3) (.tmp ta), ty3, pos3, af3, none⟩]))
    (hc : (l.take m).all (fun o => !callVal o.op) = true) (hk : keepB (l.take m) env ts = true) (hne : x1 ≠ ta ∧ x2 ≠ ta ∧ x2 ≠ ti ∧ ta ≠ ti ∧ ta < env.length ∧ ti < env.length)
    (h : ∀ K : List AV → Sto → Prop, (∀ vs σ1, seqK P Γ ((l.drop (m + 1)).take c) σ1 (setL env ts vs) tS tX T Te Ts ta p q x1 x2 x3 (fun env' σ' => Q .normal (env'.set ti .any) σ') → K vs σ1) → ARunF P Γ false l.toArray (fun fe σ' => K (ts.map fe) σ') (l.take m) (fun t => env.getD t .any) σ) :
    AW F P Γ (.seq (.region id1 l.toArray false) (.region id2 #[⟨some ti, .indexAddr T (.tmp ta) (.tmp x1), ty1, pos1, af1, none⟩, ⟨none, .store Te (.tmp ti) (.tmp x2), ty2, pos2, af2, none⟩] false)) env σ Q := by
  refine AW.seqlate m hd hc hne ?_
  have h0 := h (fun vs σ1 => seqK P Γ ((l.drop (m + 1)).take c) σ1 (setL env ts vs) tS tX T Te Ts ta p q x1 x2 x3 (fun env' σ' => Q .normal (env'.set ti .any) σ')) (fun _ _ h => h)
  refine ARun.mono ?_ (ARunF.run (keepB_dst hk) (Agr.start env (dstsOf (l.take m))) h0)
  rintro env0 σ1 ⟨fe, h1, h2⟩
  exact ⟨_, by rw [setL_map]; exact h2.wk hk, setL_length _ _ _, h1⟩

/-! A row that lives becomes one that is held with the right to append to it. -/
def Ctx.hold (C : Ctx) (o p len sz : Nat) (cs : List AV) : Ctx := ⟨fun i => if i = C.σ.length then C.φ o else C.φ i, (C.σ.set o .dead).set p (.cells cs) ++ [.cap len sz], C.w⟩
theorem hold_get {C : Ctx} {o p len sz : Nat} {cs cs0 : List AV} (hp : C.σ[p]? = some (.cells cs0)) (hop : p ≠ o) {i : Nat} {x : AO} (h : (C.hold o p len sz cs).σ[i]? = some x) : (i = C.σ.length ∧ x = .cap len sz) ∨ (i ≠ C.σ.length ∧ ((i = p ∧ x = .cells cs) ∨ (i = o ∧ x = .dead) ∨ (i ≠ p ∧ i ≠ o ∧ C.σ[i]? = some x))) := by
  have hlp := (List.getElem?_eq_some_iff.1 hp).1
  simp only [Ctx.hold] at h
  rcases Nat.lt_trichotomy i C.σ.length with hlt | heq | hgt
  · right
    refine ⟨by omega, ?_⟩
    rw [List.getElem?_append_left (by simpa using hlt)] at h
    by_cases hip : i = p
    · subst hip
      rw [List.getElem?_set_self (by simpa using hlt)] at h
      exact .inl ⟨rfl, (Option.some.inj h).symm⟩
    · rw [List.getElem?_set_ne (fun e => hip e.symm)] at h
      by_cases hio : i = o
      · subst hio
        rw [List.getElem?_set_self hlt] at h
        exact .inr (.inl ⟨rfl, (Option.some.inj h).symm⟩)
      · rw [List.getElem?_set_ne (fun e => hio e.symm)] at h
        exact .inr (.inr ⟨hip, hio, h⟩)
  · left
    subst heq
    rw [List.getElem?_append_right (by simp)] at h
    simp at h
    exact ⟨rfl, h.symm⟩
  · rw [List.getElem?_append_right (by simp; omega)] at h
    simp only [List.length_set] at h
    rw [List.getElem?_eq_none (by simp; omega)] at h
    cases h
theorem hold_at {C : Ctx} {o p len sz : Nat} {cs : List AV} {i : Nat} {x : AO} (h : C.σ[i]? = some x) (hip : i ≠ p) (hio : i ≠ o) : (C.hold o p len sz cs).σ[i]? = some x := by
  have hlt := (List.getElem?_eq_some_iff.1 h).1
  simp only [Ctx.hold]
  rw [List.getElem?_append_left (by simpa using hlt), List.getElem?_set_ne (fun e => hip e.symm), List.getElem?_set_ne (fun e => hio e.symm)]
  exact h
set_option maxHeartbeats 1000000 in
theorem AW.hold (o p j : Nat) (es : List AV) {len sz : Nat} {cs0 cs : List AV} {c : Code} {env : Env} {σ : Sto} {Q : Exit → Env → Sto → Prop} (hp : σ[p]? = some (.cells cs)) (ho : σ[o]? = some (.cells cs0)) (hj : cs[j]? = some (.osl o 0 len sz)) (hcs : es.flatMap AV.cells = cs0)
    (hlen : es.length = len) (hne : len ≠ 0) (hsz : ∀ e ∈ es, e.cells.length = sz) (hpos : 0 < sz) (hop : p ≠ o)
    (h : AW F P Γ c env ((σ.set o .dead).set p (.cells (cs.set j (.slo false sz es σ.length))) ++ [.cap len sz]) Q) : AW F P Γ c env σ Q := by
  intro C a hs
  obtain ⟨rfl, hS, hG, hL, hD⟩ := hs
  obtain ⟨arr, T, hb, hn, hl, h1⟩ := hS.cells o cs0 ho
  obtain ⟨xs, l1, l2, l3⟩ := obj_cells hS ho 0
  let D := C.hold o p len sz (cs.set j (.slo false sz es C.σ.length))
  have hlo := (List.getElem?_eq_some_iff.1 ho).1
  have hlp := (List.getElem?_eq_some_iff.1 hp).1
  have hlimo : C.lim o = some 0 := by rw [lim_of ho]; rfl
  have hφ : ∀ i, i ≠ C.σ.length → D.φ i = C.φ i := fun i hi => if_neg hi
  have hφn : D.φ C.σ.length = C.φ o := if_pos rfl
  -- the bounds
  have hlim : ∀ i l, D.lim i = some l → (i = C.σ.length ∧ l = len * sz) ∨ (i ≠ C.σ.length ∧ i ≠ o ∧ C.lim i = some l) := by
    intro i l hl
    obtain ⟨x, g1, g2⟩ := Option.bind_eq_some_iff.1 hl
    rcases hold_get (o := o) (len := len) (sz := sz) (cs := cs.set j (.slo false sz es C.σ.length)) hp hop g1 with ⟨e, rfl⟩ | ⟨e, ⟨rfl, rfl⟩ | ⟨rfl, rfl⟩ | ⟨h1, h2, h3⟩⟩
    · simp only [AO.lim, if_neg hne, Option.some.injEq] at g2
      exact .inl ⟨e, g2.symm⟩
    · right
      refine ⟨e, hop, ?_⟩
      rw [lim_of hp]
      exact g2
    · cases g2
    · right
      refine ⟨e, h2, ?_⟩
      rw [lim_of h3]
      exact g2
  have hfix : ∀ b off, C.FixC b off → D.FixC b off := by
    intro b off hf
    refine ⟨hf.1, fun i l hl e => ?_⟩
    rcases hlim i l hl with ⟨rfl, rfl⟩ | ⟨hi, _, hc⟩
    · rw [hφn] at e
      exact absurd (hf.2 o 0 hlimo e) (by omega)
    · rw [hφ i hi] at e
      exact hf.2 i l hc e
  have hext : Ext C D := by
    refine ⟨Nat.le_refl _, fun i x g1 g2 => ?_, fun i n z g1 => ?_, fun b off hf => ⟨rfl, hfix b off hf⟩, fun b hf => ⟨rfl, hf.1, fun i l hl e => ?_⟩, fun _ arr _ _ h => ⟨arr, h, rfl⟩, fun i g1 => ?_, fun i g1 => ?_, rfl, rfl, rfl⟩
    · have hi := (List.getElem?_eq_some_iff.1 g1).1
      refine ⟨hφ i (by omega), ?_⟩
      by_cases hip : i = p
      · subst hip
        refine ⟨.cells (cs.set j (.slo false sz es C.σ.length)), ?_, rfl⟩
        show ((C.σ.set o .dead).set i _ ++ _)[i]? = _
        rw [List.getElem?_append_left (by simpa using hi), List.getElem?_set_self (by simpa using hi)]
      · by_cases hio : i = o
        · subst hio
          refine ⟨.dead, ?_, rfl⟩
          show ((C.σ.set i .dead).set p _ ++ _)[i]? = _
          rw [List.getElem?_append_left (by simpa using hi), List.getElem?_set_ne (fun e => hip e.symm), List.getElem?_set_self hi]
        · exact ⟨x, hold_at g1 hip hio, g2⟩
    · have hi := (List.getElem?_eq_some_iff.1 g1).1
      refine ⟨n, hold_at g1 (fun e => by rw [e, hp] at g1; cases g1) (fun e => by rw [e, ho] at g1; cases g1), Nat.le_refl _, fun _ => hφ i (by omega)⟩
    · rcases hlim i l hl with ⟨rfl, rfl⟩ | ⟨hi, _, hc⟩
      · rw [hφn] at e
        exact hf.2 o 0 hlimo e
      · rw [hφ i hi] at e
        exact hf.2 i l hc e
    · have hi := (List.getElem?_eq_some_iff.1 g1).1
      refine ⟨hold_at g1 (fun e => by rw [e, hp] at g1; cases g1) (fun e => by rw [e, ho] at g1; cases g1), ?_⟩
      rw [hφ i (by omega)]
      rfl
    · rcases hold_get (o := o) (len := len) (sz := sz) (cs := cs.set j (.slo false sz es C.σ.length)) hp hop g1 with ⟨e, hx⟩ | ⟨e, ⟨rfl, hx⟩ | ⟨rfl, hx⟩ | ⟨g7, g8, h3⟩⟩
      · cases hx
      · cases hx
      · cases hx
      · exact .inl h3
  have hrow : RelRow D es (C.φ o) 0 sz := by
    refine relRow_of hsz ?_
    rw [hcs]
    refine relAt_of (xs := xs) (RelL.mono hext (by simpa using l1)) (fun j u hj => ⟨?_, l3 u (List.mem_of_getElem? hj)⟩) (fun j hj => ⟨lt_of_heap hb, fun i l hl e => ?_⟩)
    · have := l2 j u hj
      rw [add_lit] at this
      exact this
    · rcases hlim i l hl with ⟨rfl, rfl⟩ | ⟨hi, hio, hc⟩
      · have hh : cs0.length = len * sz := by
          rw [← hcs, ← hlen]
          exact flatC_len hsz
        omega
      · rw [hφ i hi] at e
        exact absurd (hS.inj i o (by rw [hc]; rfl) (by rw [hlimo]; rfl) e) hio
  have hcap : D.σ[C.σ.length]? = some (.cap len sz) := by
    show ((C.σ.set o .dead).set p _ ++ _)[C.σ.length]? = _
    rw [List.getElem?_append_right (by simp)]
    simp
  have hval : ∀ x, RelV C (.osl o 0 len sz) x → RelV D (.slo false sz es C.σ.length) x := by
    rintro x ⟨_, c, arr', T', rfl, g1, g2, g3, g4⟩
    refine ⟨len, hcap, by omega, hpos, fun e => by rw [e] at hlen; exact absurd hlen.symm hne, fun _ => ⟨C.φ o, 0, c, by rw [hlen], by omega, g2, fun _ => ⟨hφn.symm, rfl, arr', T', g3, by omega⟩, hrow⟩⟩
  have hset : ∀ {ds : List AV} {ys : List Value} {i : Nat}, ds[i]? = some (.osl o 0 len sz) → RelL C ds ys → RelL D (ds.set i (.slo false sz es C.σ.length)) ys := by
    intro ds
    induction ds with
    | nil => intro ys i h; simp at h
    | cons d ds ih =>
      intro ys i h1 h2
      cases ys with
      | nil => exact h2.elim
      | cons y ys =>
        cases i with
        | zero =>
          simp only [List.getElem?_cons_zero, Option.some.injEq] at h1
          subst h1
          exact ⟨hval _ h2.1, RelL.mono hext h2.2⟩
        | succ i => exact ⟨RelV.mono hext h2.1, ih (by simpa using h1) h2.2⟩
  have hrel : RelS D := by
    refine ⟨fun i ds hk => ?_, fun i ks vs hk => ?_, fun i n z hk hpos' => ?_, fun i hk => ?_, fun i r e hk => ?_, fun i i' g1 g2 e => ?_⟩
    · rcases hold_get (o := o) (len := len) (sz := sz) (cs := cs.set j (.slo false sz es C.σ.length)) hp hop hk with ⟨_, hx⟩ | ⟨hi, ⟨rfl, hx⟩ | ⟨rfl, hx⟩ | ⟨g7, g8, h3⟩⟩
      · cases hx
      · cases hx
        obtain ⟨arr', T', a1, a2, a3, a4⟩ := hS.cells i cs hp
        rw [hφ i hi]
        exact ⟨arr', T', a1, by simpa using a2, by rw [List.length_set]; exact hset hj a3, a4⟩
      · cases hx
      · obtain ⟨arr', T', a1, a2, a3, a4⟩ := hS.cells i ds h3
        rw [hφ i hi]
        exact ⟨arr', T', a1, a2, RelL.mono hext a3, a4⟩
    · rcases hold_get (o := o) (len := len) (sz := sz) (cs := cs.set j (.slo false sz es C.σ.length)) hp hop hk with ⟨_, hx⟩ | ⟨hi, ⟨rfl, hx⟩ | ⟨rfl, hx⟩ | ⟨g7, g8, h3⟩⟩ <;> try (cases hx; done)
      obtain ⟨ds, clock, a1, a2, a3⟩ := hS.map i ks vs h3
      rw [hφ i hi]
      exact ⟨ds, clock, a1, a2, RelL.mono hext a3⟩
    · rcases hold_get (o := o) (len := len) (sz := sz) (cs := cs.set j (.slo false sz es C.σ.length)) hp hop hk with ⟨rfl, hx⟩ | ⟨hi, ⟨rfl, hx⟩ | ⟨rfl, hx⟩ | ⟨g7, g8, h3⟩⟩ <;> try (cases hx; done)
      · cases hx
        rw [hφn]
        refine ⟨arr, T, hb, ?_, h1⟩
        have hh : cs0.length = len * sz := by
          rw [← hcs, ← hlen]
          exact flatC_len hsz
        omega
      · rw [hφ i hi]
        exact hS.cap i n z h3 hpos'
    · rcases hold_get (o := o) (len := len) (sz := sz) (cs := cs.set j (.slo false sz es C.σ.length)) hp hop hk with ⟨_, hx⟩ | ⟨hi, ⟨rfl, hx⟩ | ⟨rfl, hx⟩ | ⟨g7, g8, h3⟩⟩ <;> try (cases hx; done)
      rw [hφ i hi]
      exact hS.dfr i h3
    · rcases hold_get (o := o) (len := len) (sz := sz) (cs := cs.set j (.slo false sz es C.σ.length)) hp hop hk with ⟨_, hx⟩ | ⟨hi, ⟨rfl, hx⟩ | ⟨rfl, hx⟩ | ⟨g7, g8, h3⟩⟩ <;> try (cases hx; done)
      obtain ⟨a1, a2⟩ := hS.loop i r e h3
      rw [hφ i hi]
      exact ⟨a1, RelL.mono hext a2⟩
    · obtain ⟨l, q1⟩ := Option.isSome_iff_exists.1 g1
      obtain ⟨l', q2⟩ := Option.isSome_iff_exists.1 g2
      rcases hlim i l q1 with ⟨rfl, _⟩ | ⟨hi, hio, hc⟩ <;> rcases hlim i' l' q2 with ⟨rfl, _⟩ | ⟨hi', hio', hc'⟩
      · rfl
      · rw [hφn, hφ i' hi'] at e
        exact absurd (hS.inj o i' (by rw [hlimo]; rfl) (by rw [hc']; rfl) e) (fun h => hio' h.symm)
      · rw [hφn, hφ i hi] at e
        exact absurd (hS.inj i o (by rw [hc]; rfl) (by rw [hlimo]; rfl) e) hio
      · rw [hφ i hi, hφ i' hi'] at e
        exact hS.inj i i' (by rw [hc]; rfl) (by rw [hc']; rfl) e
  exact wpIn_mono (h D a ⟨rfl, hrel, RelG.mono hext hG, RelL.mono hext hL, hD.mono hext⟩) fun e a' w hp => hp.trans hext
end Go.Proofs.Ev

