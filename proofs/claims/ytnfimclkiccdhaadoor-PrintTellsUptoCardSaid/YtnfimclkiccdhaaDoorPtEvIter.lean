import Derived.Test.YtnfimclkiccdhaaDoorPtEvRange
/-! Ranges over functions. -/
namespace Go.Proofs.Ev
set_option linter.unusedSimpArgs false
set_option linter.unusedVariables false
open Go
variable {F : Fr} {P : Program} {Γ : List (Nat × List AV)}
mutual
theorem AV.bel_up {n m : Nat} (h : n ≤ m) : ∀ {v : AV}, v.bel n = true → v.bel m = true
  | .any, _ | .val _, _ | .nilsl, _ => rfl
  | .agg cs, k | .tup cs, k | .sl _ cs, k | .slf _ cs, k | .er cs, k | .fn _ cs, k | .mapf _ cs, k => belL_up h (cs := cs) k
  | .ref o _, k | .osl o _ _ _, k | .mapo o, k | .yl o, k => by
    simp only [AV.bel, decide_eq_true_eq] at k ⊢
    omega
  | .slo _ _ es o, k => by
    simp only [AV.bel, Bool.and_eq_true, decide_eq_true_eq] at k ⊢
    exact ⟨by omega, belL_up h k.2⟩
  | .ifc _ v, k => AV.bel_up h (v := v) k
theorem belL_up {n m : Nat} (h : n ≤ m) : ∀ {cs : List AV}, belL n cs = true → belL m cs = true
  | [], _ => rfl
  | c :: cs, k => by
    simp only [belL, Bool.and_eq_true] at k ⊢
    exact ⟨AV.bel_up h k.1, belL_up h k.2⟩
end
theorem bel_le {n m : Nat} (h : n ≤ m) {a : AO} (k : a.bel n = true) : a.bel m = true := by
  cases a with
  | cells cs => exact belL_up h k
  | map ks vs => exact belL_up h k
  | loop r env => exact belL_up h k
  | gh g => exact decide_eq_true (Nat.lt_of_lt_of_le (of_decide_eq_true k) h)
  | _ => rfl
/-- A store whose objects reach nothing from n on. -/
def Shut (n : Nat) (σ : Sto) : Prop := ∀ (i : Nat) (a : AO), σ[i]? = some a → a.bel n = true
/-- What a function does that hands xs, one after the other, to whatever it is given. -/
def AIter (P : Program) (Γ : List (Nat × List AV)) (f : FuncId) (caps : List AV) (σ : Sto) (xs : List (List AV)) : Prop :=
  ∀ (o : Nat) (S : Nat → Sto) (I : Nat → Prop) (X : Sto → Prop), I 0 → (∃ τ, S 0 = σ ++ τ) → o < (S 0).length → (∀ k, (S k).length = (S 0).length) → (∀ k, k ≤ xs.length → Shut (S 0).length (S k)) → (∀ σx, X σx → σx.length = (S 0).length ∧ Shut (S 0).length σx) →
    (∀ k x, xs[k]? = some x → I k → ∀ τ, ARound P Γ o x (S k ++ τ) (fun b σ' => (b = true ∧ I (k + 1) ∧ σ' = S (k + 1) ++ τ) ∨ (b = false ∧ ∃ σx, X σx ∧ σ' = σx ++ τ))) →
    ACalls P Γ f (.yl o :: caps) (S 0) (fun _ σ' => (I xs.length ∧ σ' = S xs.length) ∨ X σ')

def envp (env : Env) : List Tmp → List AV → Env
  | p :: ps, x :: xs => envp (env.set p x) ps xs
  | _, _ => env
theorem envp_rel {C : Ctx} : ∀ {ps : List Tmp} {xs : List AV} {ys : List Value} {env : Env} {ts : Array Value}, RelL C env ts.toList → RelL C xs ys → RelL C (envp env ps xs) ((ps.zip ys).foldl (fun t (p : Tmp × Value) => t.setIfInBounds p.1 p.2) ts).toList
  | [], xs, ys, env, ts, h, _ => by simpa [envp] using h
  | p :: ps, [], [], env, ts, h, _ => by simpa [envp] using h
  | p :: ps, x :: xs, y :: ys, env, ts, h, hx => by
    simp only [envp, List.zip_cons_cons, List.foldl_cons]
    refine envp_rel (ts := ts.setIfInBounds p y) ?_ hx.2
    rw [Array.toList_setIfInBounds]
    exact relL_set h hx.1
  | _ :: _, [], _ :: _, _, _, _, hx => hx.elim
  | _ :: _, _ :: _, [], _, _, _, hx => hx.elim
/-- The loop's record is another one, on the same temporaries. -/
def Ctx.turn (C : Ctx) (o : Nat) (r : Loop) (env : Env) : Ctx := C.put o (.loop r env) (.loop r)
theorem turn_ok {C : Ctx} (hS : RelS C) {o : Nat} {r r' : Loop} {env : Env} (ho : C.σ[o]? = some (.loop r env)) (ht : r'.tmps = r.tmps) : Ext C (C.turn o r' env) ∧ RelS (C.turn o r' env) ∧ (C.turn o r' env).w = C.w.putObj (C.φ o) (.loop r') ∧ (C.turn o r' env).σ = C.σ.set o (.loop r' env) := by
  obtain ⟨hb, hl⟩ := hS.loop o _ _ ho
  have hE : Ext C (C.turn o r' env) := put_ext hS ho rfl hb trivial (.inl ⟨rfl, rfl⟩) ⟨0, rfl, Nat.le_refl _⟩ ⟨by simp, by simp⟩ (fun off h => by omega)
  exact ⟨hE, put_rel hS (by rw [lim_of ho]; rfl) hE ⟨setBlk_same _ _ _ (lt_of_heap hb), by rw [ht]; exact RelL.mono hE hl⟩, rfl, rfl⟩
/-- Marks grow by one. -/
theorem DOk.more {n o : Nat} {C : Ctx} {ds : List Deferred} (h : DOk (.marks n) C ds) (hn : n ≤ o) (ho : C.σ[o]? = some .dfr) (hb : C.w.heap[C.φ o]? = some (.deferred (some []))) (hno : ∀ d ∈ ds, d ≠ { target := .collected (C.φ o), args := #[] }) : DOk (.marks n) C ({ target := .collected (C.φ o), args := #[] } :: ds) := by
  obtain ⟨ms, h1, rfl, h2⟩ := h
  refine ⟨o :: ms, List.nodup_cons.2 ⟨fun hm => ?_, h1⟩, rfl, fun k hk => ?_⟩
  · exact hno _ (List.mem_map.2 ⟨o, hm, rfl⟩) rfl
  · rcases List.mem_cons.1 hk with rfl | hk
    · exact ⟨hn, ho, hb⟩
    · exact h2 k hk
/-- A way out of a round. -/
def jumpOf : Exit → Option Code
  | .ret => some .ret
  | .exit id => some (.exit id)
  | _ => none
/-- What the round hands to the iterator, out of its body's walk. -/
theorem run_end {C : Ctx} (hS : RelS C) {o : Nat} {r : Loop} {env : Env} (jump : Option Code) (ho : C.σ[o]? = some (.loop r env)) :
    (Instr.endRound (C.φ o) jump).run P C.w = .ok (.bool jump.isNone) (C.turn o { r with state := if jump.isNone then .ready else .done, pending := jump } env).w := run_endRound jump (hS.loop o _ _ ho).1
/-- A range over a function. -/
theorem AW.range {n : Nat} {g : Operand} {ps : Array Tmp} {assign body : Code} {env : Env} {f : FuncId} {caps : List AV} {σ0 : Sto} {xs : List (List AV)} (S : Nat → Sto) (I : Nat → Prop) (X : Exit → Sto → Prop) {Q : Exit → Env → Sto → Prop}
    (hg : opnd Γ env g = .fn f caps) (hen : Enters P f) (hit : AIter P Γ f caps σ0 xs) (h0 : I 0) (hpre : ∃ τ, S 0 = σ0 ++ τ) (hn : n ≤ (S 0).length) (hlen : ∀ k, (S k).length = (S 0).length) (hsh' : ∀ k, k ≤ xs.length → ∀ (i : Nat) (a : AO), (S k)[i]? = some a → (S 0)[i]? = some a ∨ a.bel (S 0).length = true)
    (hX' : ∀ e σx, X e σx → (e = .ret ∨ ∃ id, e = .exit id) ∧ σx.length = (S 0).length ∧ ∀ (i : Nat) (a : AO), σx[i]? = some a → (S 0)[i]? = some a ∨ a.bel (S 0).length = true) (hps : ∀ x, x ∈ xs → x.length = ps.size)
    (hround : ∀ l k x, xs[k]? = some x → I k → ∀ τ, AW (.round l) P Γ assign (envp env ps.toList x) (S k ++ τ) (fun e env1 σ1 => e = .normal ∧ ∃ ρ, σ1 = S k ++ (τ ++ ρ) ∧ ∀ τ', τ'.length = τ.length →
      AW (.round l) P Γ body env1 (S k ++ (τ' ++ ρ)) (fun e _ σ2 => match e with
        | .normal => I (k + 1) ∧ ∃ ρ', σ2 = S (k + 1) ++ (τ' ++ ρ')
        | e => ∃ σx ρ', X e σx ∧ σ2 = σx ++ (τ' ++ ρ'))))
    (hdone : I xs.length → ∀ r env0, Q .normal env (S xs.length ++ [.dfr, .loop r env0])) (hstop : ∀ e σx, X e σx → ∀ r env0, Q e env (σx ++ [.dfr, .loop r env0])) : AW (.marks n) P Γ (.rangeFunc g ps assign body) env (S 0) Q := by
  intro C a hs
  obtain ⟨hσ, hS, hG, hL, hD⟩ := hs
  have hs0 : Shut (S 0).length (S 0) := fun i a hi => by
    have := hS.bel (i := i) (a := a) (by rw [hσ]; exact hi)
    rwa [hσ] at this
  have hsh : ∀ k, k ≤ xs.length → Shut (S 0).length (S k) := fun k hk i a hi => (hsh' k hk i a hi).elim (hs0 i a) id
  have hX : ∀ e σx, X e σx → (e = .ret ∨ ∃ id, e = .exit id) ∧ σx.length = (S 0).length ∧ Shut (S 0).length σx := fun e σx hx => by
    obtain ⟨h1, h2, h3⟩ := hX' e σx hx
    exact ⟨h1, h2, fun i a hi => (h3 i a hi).elim (hs0 i a) id⟩
  refine wpIn_rangeFunc fun fn hfn => ?_
  have hro : (Fr.marks n).fence.round = none := rfl
  rw [hro]
  let rec0 : LoopState → Option Code → Loop := fun st pe => { state := st, pending := pe, fn, tmps := a.tmps, params := ps, assign, body, defers := C.w.heap.size }
  -- the two blocks
  have hC1e := new_ext hS .dfr (.deferred (some []))
  have hC1 : RelS (C.new .dfr (.deferred (some []))) := new_rel hS ⟨_, by rw [new_φ_at]; exact heap_alloc_at _ _⟩
  let C1 := C.new .dfr (.deferred (some []))
  have hC2e : Ext C1 (C1.new (.loop (rec0 .ready none) env) (.loop (rec0 .ready none))) := new_ext hC1 _ _
  have hL2 := RelL.mono hC2e (RelL.mono hC1e hL)
  have hC2 : RelS (C1.new (.loop (rec0 .ready none) env) (.loop (rec0 .ready none))) := new_rel hC1 ⟨by rw [new_φ_at]; exact heap_alloc_at _ _, hL2⟩
  generalize hC2d : C1.new (.loop (rec0 .ready none) env) (.loop (rec0 .ready none)) = C2 at hC2e hL2 hC2
  have hσ1 : C1.σ = S 0 ++ [.dfr] := by show C.σ ++ _ = _; rw [hσ]
  have hσ2 : C2.σ = S 0 ++ [.dfr, .loop (rec0 .ready none) env] := by
    rw [← hC2d]
    show C1.σ ++ _ = _
    rw [hσ1, List.append_assoc]
    rfl
  have hw2 : C2.w = (C.w.alloc (.deferred (some []))).alloc (.loop (rec0 .ready none)) := by rw [← hC2d]; rfl
  have hlC : C.σ.length = (S 0).length := by rw [hσ]
  have hφ1 : C2.φ (S 0).length = C.w.heap.size := by
    rw [← hC2d, new_φ_old (by rw [hσ1]; simp), ← hlC]
    exact new_φ_at
  have hφ2 : C2.φ ((S 0).length + 1) = C.w.heap.size + 1 := by
    have : (S 0).length + 1 = C1.σ.length := by rw [hσ1]; simp
    rw [← hC2d, this, new_φ_at]
    exact alloc_size _ _
  have hE2 : Ext C C2 := hC1e.trans hC2e
  have hgo := opnd_ok hG hL g
  rw [hg] at hgo
  obtain ⟨cs, he, hcs⟩ := hgo
  have heval : a.eval g = .func (.func f) #[] cs.toArray := he
  refine ⟨C.w.heap.size + 1, [{ target := .collected C.w.heap.size, args := #[] }], C2.w, { target := .fn (.func f) cs.toArray, args := #[yv (C.w.heap.size + 1)] }, C2.w, f, #[yv (C.w.heap.size + 1)] ++ cs.toArray, C2.w, ?_, ?_, ?_, ?_, fun h => fence_depth _ h, ?_⟩
  · rw [hw2]
    exact run_enterLoop_outer _ _ _ _ _
  · simp only [resolve, heval]
    simp [go_sem, yv]
  · intro f' hf'
    exact fence_fn _ _
  · simp [invoke, go_sem]
    exact hen _ _
  let S' : Nat → Sto := fun k => S k ++ [.dfr, .loop (rec0 .ready none) env]
  let X' : Sto → Prop := fun τ => ∃ e σx r, X e σx ∧ r.state ≠ .busy ∧ r.tmps = a.tmps ∧ r.pending = jumpOf e ∧ τ = σx ++ [.dfr, .loop r env]
  have hS'0 : S' 0 = C2.σ := hσ2.symm
  have hl' : ∀ k, (S' k).length = (S' 0).length := fun k => by simp [S', hlen k]
  have henv : belL (S' 0).length env = true := by
    have := RelL.bel hL2
    rwa [hσ2] at this
  have hbig : ∀ (τ : Sto), Shut (S 0).length τ → Shut (S' 0).length τ := fun τ h i x hi => bel_le (by simp [S']) (h i x hi)
  have hshut : ∀ (τ : Sto) (r : Loop), Shut (S 0).length τ → Shut (S' 0).length (τ ++ [.dfr, .loop r env]) := by
    intro τ r h i x hi
    rcases Nat.lt_or_ge i τ.length with hlt | hge
    · rw [List.getElem?_append_left hlt] at hi
      exact hbig τ h i x hi
    · rw [List.getElem?_append_right hge] at hi
      have hm := List.mem_of_getElem? hi
      simp only [List.mem_cons, List.not_mem_nil, or_false] at hm
      rcases hm with rfl | rfl
      · rfl
      · exact henv
  have hcall := hit ((S 0).length + 1) S' I X' h0 (by obtain ⟨τ, e⟩ := hpre; exact ⟨τ ++ [.dfr, .loop (rec0 .ready none) env], by simp [S', e]⟩) (by simp [S']) hl' (fun k hk => hshut _ _ (hsh k hk))
    (fun τ h => by
      obtain ⟨e, σx, r, h1, _, _, _, rfl⟩ := h
      obtain ⟨_, h2, h3⟩ := hX e σx h1
      exact ⟨by simp [S', h2], hshut _ _ h3⟩) ?_
  · -- behind the iterator
    have hargs : RelL C2 (.yl ((S 0).length + 1) :: caps) (yv (C.w.heap.size + 1) :: cs) := by
      refine ⟨⟨⟨.loop (rec0 .ready none) env, by rw [hσ2, List.getElem?_append_right (by omega)]; simp, rfl⟩, by rw [hφ2]⟩, RelL.mono hE2 hcs⟩
    have := hcall C2 _ hS'0.symm hC2 (RelG.mono hE2 hG) hargs
    have harr : #[yv (C.w.heap.size + 1)] ++ cs.toArray = (yv (C.w.heap.size + 1) :: cs).toArray := by simp
    rw [harr]
    refine callsF _ (this.mono ?_)
    rintro e w' ⟨D, x, v, rfl, rfl, k1, k2, k3, k4⟩
    have hend : ∀ (r : Loop) (σx : Sto), D.σ = σx ++ [.dfr, .loop r env] → σx.length = (S 0).length → r.state ≠ .busy → r.tmps = a.tmps →
        ∃ E : Ctx, (Instr.endLoop (C.w.heap.size + 1)).run P D.w = .ok r.pending E.w ∧ Stands (.marks n) Γ E { a with defers := { target := .collected C.w.heap.size, args := #[] } :: a.defers } env E.σ ∧ Ext C E ∧ ∃ r', E.σ = σx ++ [.dfr, .loop r' env] := by
      intro r σx hDσ hxl hnb htm
      have ho : D.σ[(S 0).length + 1]? = some (.loop r env) := by rw [hDσ, List.getElem?_append_right (by omega), hxl]; simp
      obtain ⟨t1, t2, t3, t4⟩ := turn_ok k2 (r' := { r with state := .exhausted }) ho rfl
      have hφ : D.φ ((S 0).length + 1) = C.w.heap.size + 1 := by
        rw [← hφ2]
        exact (k1.ids _ (.loop (rec0 .ready none) env) (by rw [hσ2, List.getElem?_append_right (by omega)]; simp) rfl).1
      have hEx := (hE2.trans k1).trans t1
      have hσE : (D.turn ((S 0).length + 1) { r with state := .exhausted } env).σ = σx ++ [.dfr, .loop { r with state := .exhausted } env] := by
        rw [t4, hDσ, List.set_append_right _ _ (by omega), hxl, Nat.add_sub_cancel_left]
        rfl
      refine ⟨D.turn ((S 0).length + 1) { r with state := .exhausted } env, ?_, ⟨rfl, t2, RelG.mono hEx hG, RelL.mono hEx hL, ?_⟩, hEx, _, hσE⟩
      · have := run_endLoop (P := P) (k2.loop _ _ _ ho).1 hnb
        rw [t3]
        rw [hφ] at this ⊢
        exact this
      · have hd0 : C2.σ[(S 0).length]? = some .dfr := by rw [hσ2, List.getElem?_append_right (by omega)]; simp
        obtain ⟨d1, d2⟩ := (k1.trans t1).dfr _ hd0
        have hφE : (D.turn ((S 0).length + 1) { r with state := .exhausted } env).φ (S 0).length = C.w.heap.size := by
          rw [← hφ1]
          exact ((k1.trans t1).ids _ _ hd0 rfl).1
        have := DOk.more (hD.mono hEx) (o := (S 0).length) hn d1 (by
          rw [d2, hφ1, hw2, heap_alloc_lt _ _ (by rw [alloc_size]; omega)]
          exact heap_alloc_at _ _) ?_
        · rwa [hφE] at this
        · rw [hφE]
          rintro d hd rfl
          obtain ⟨ms, _, e, h2⟩ := hD
          rw [e] at hd
          obtain ⟨o, ho1, ho2⟩ := List.mem_map.1 hd
          have e1 : C.φ o = C.w.heap.size := by simpa using ho2
          obtain ⟨_, _, h3⟩ := h2 o ho1
          have := lt_of_heap h3
          omega
    rcases k4 with ⟨hIN, k4⟩ | ⟨e, σx, r, hx, hnb, htm, hpe, k4⟩
    · obtain ⟨E, e1, e2, e3, r', e4⟩ := hend _ _ k4 (hlen _) (by simp [rec0]) rfl
      exact ⟨none, E.w, e1, E, env, rfl, e3, e2.S, e2.G, e2.L, e2.D, by rw [e4]; exact hdone hIN _ _⟩
    · obtain ⟨hk, hxl, _⟩ := hX e σx hx
      obtain ⟨E, e1, e2, e3, r', e4⟩ := hend _ _ k4 hxl hnb htm
      rw [hpe] at e1
      rcases hk with rfl | ⟨id, rfl⟩
      · exact ⟨some .ret, E.w, e1, wpIn_ret ⟨E, env, rfl, e3, e2.S, e2.G, e2.L, e2.D, by rw [e4]; exact hstop _ _ hx _ _⟩⟩
      · exact ⟨some (.exit id), E.w, e1, wpIn_exit ⟨E, env, rfl, e3, e2.S, e2.G, e2.L, e2.D, by rw [e4]; exact hstop _ _ hx _ _⟩⟩
  · -- one round
    intro k x hx hIk τ D ys hDσ hDS hDG hys
    have hkl : k < xs.length := (List.getElem?_eq_some_iff.1 hx).1
    have ho : D.σ[(S 0).length + 1]? = some (.loop (rec0 .ready none) env) := by
      rw [hDσ, List.append_assoc, List.getElem?_append_right (by rw [hlen k]; omega), hlen k]
      simp
    obtain ⟨hb, hLD⟩ := hDS.loop _ _ _ ho
    have hxl := hps x (List.mem_of_getElem? hx)
    have hyl := relL_length hys
    have hy := run_yield (P := P) (args := ys.toArray) hb (by show ys.toArray.size = ps.size; simp; omega)
    refine ⟨_, _, _, _, hy, roundIn_of_wpIn trivial ?_⟩
    have hst : Stands (.round (D.φ ((S 0).length + 1))) Γ D { tmps := ((ps.toList.zip ys).foldl (fun t (p : Tmp × Value) => t.setIfInBounds p.1 p.2) a.tmps), defers := [] } (envp env ps.toList x) (S k ++ ([.dfr, .loop (rec0 .ready none) env] ++ τ)) :=
      ⟨by rw [hDσ, ← List.append_assoc], hDS, hDG, envp_rel hLD hys, rfl⟩
    have hzip : (ps.zip ys.toArray).foldl (fun tmps (t, a) => tmps.setIfInBounds t a) a.tmps = (ps.toList.zip ys).foldl (fun t (p : Tmp × Value) => t.setIfInBounds p.1 p.2) a.tmps := by
      rw [← Array.foldl_toList, Array.toList_zip]
    show Code.wpIn _ _ _ _ _ { tmps := (ps.zip ys.toArray).foldl (fun tmps (t, a) => tmps.setIfInBounds t a) a.tmps, defers := [] } _
    rw [hzip]
    refine wpIn_mono (hround (D.φ ((S 0).length + 1)) k x hx hIk _ D _ hst) ?_
    rintro e a1 w1 ⟨E, env1, rfl, k1, k2, k3, k4, k5, rfl, ρ, k6, k7⟩
    have hoE : E.σ[(S 0).length + 1]? = some (.loop (rec0 .ready none) env) := by
      rw [k6, List.getElem?_append_right (by rw [hlen k]; omega), hlen k]
      simp
    have hφE : E.φ ((S 0).length + 1) = D.φ ((S 0).length + 1) := (k1.ids _ _ ho rfl).1
    obtain ⟨t1, t2, t3, t4⟩ := turn_ok k2 (r' := { rec0 .ready none with state := .busy }) hoE rfl
    refine ⟨(E.turn ((S 0).length + 1) { rec0 .ready none with state := .busy } env).w, ?_, ?_⟩
    · rw [t3]
      have := run_beginRound (P := P) (k2.loop _ _ _ hoE).1 rfl
      rw [hφE] at this ⊢
      exact this
    have hσB : (E.turn ((S 0).length + 1) { rec0 .ready none with state := .busy } env).σ = S k ++ (([.dfr, .loop { rec0 .ready none with state := .busy } env] ++ τ) ++ ρ) := by
      rw [t4, k6, List.set_append_right _ _ (by rw [hlen k]; omega), hlen k, Nat.add_sub_cancel_left]
      rfl
    have hbody := k7 ([.dfr, .loop { rec0 .ready none with state := .busy } env] ++ τ) (by simp) (E.turn ((S 0).length + 1) { rec0 .ready none with state := .busy } env) a1 ⟨hσB, t2, RelG.mono t1 k3, RelL.mono t1 k4, k5⟩
    refine wpIn_mono hbody ?_
    -- the round's end
    have hfin : ∀ (jump : Option Code) (G : Ctx) (σx ρ' : Sto), Ext (E.turn ((S 0).length + 1) { rec0 .ready none with state := .busy } env) G → RelS G → σx.length = (S 0).length → Shut (S 0).length σx → G.σ = σx ++ (([.dfr, .loop { rec0 .ready none with state := .busy } env] ++ τ) ++ ρ') →
        ∃ H : Ctx, (Instr.endRound (D.φ ((S 0).length + 1)) jump).run P G.w = .ok (.bool jump.isNone) H.w ∧ Ext D H ∧ RelS H ∧ H.σ = σx ++ [.dfr, .loop (rec0 (if jump.isNone then .ready else .done) jump) env] ++ τ := by
      intro jump G σx ρ' g1 g2 g3 gs g4
      have hoG : G.σ[(S 0).length + 1]? = some (.loop { rec0 .ready none with state := .busy } env) := by
        rw [g4, List.getElem?_append_right (by omega), g3]
        simp
      have hφG : G.φ ((S 0).length + 1) = D.φ ((S 0).length + 1) := ((k1.trans (t1.trans g1)).ids _ _ ho rfl).1
      obtain ⟨u1, u2, u3, u4⟩ := turn_ok g2 (r' := { rec0 .ready none with state := if jump.isNone then .ready else .done, pending := jump }) hoG rfl
      have hrun := run_end (P := P) g2 jump hoG
      rw [hφG] at hrun
      generalize hH : G.turn ((S 0).length + 1) { rec0 .ready none with state := if jump.isNone then .ready else .done, pending := jump } env = H at u1 u2 u3 u4
      have hσH : H.σ = (σx ++ [.dfr, .loop (rec0 (if jump.isNone then .ready else .done) jump) env] ++ τ) ++ ρ' := by
        rw [u4, g4, List.set_append_right _ _ (by omega), g3, Nat.add_sub_cancel_left]
        simp [rec0]
      have hlD : D.σ.length = (S 0).length + (2 + τ.length) := by rw [hDσ]; simp [S', hlen]; omega
      have hExt : Ext D H := (k1.trans (t1.trans g1)).trans u1
      have hx := trunc_ext hExt (rfl : D.σ.length = D.σ.length)
      have htake : (H.trunc D.σ.length).σ = σx ++ [.dfr, .loop (rec0 (if jump.isNone then .ready else .done) jump) env] ++ τ := by
        show H.σ.take D.σ.length = _
        rw [hσH, List.take_left' (by rw [hlD]; simp [g3]; omega)]
      refine ⟨H.trunc D.σ.length, ?_, hx, trunc_bel u2 fun i b hi hb => ?_, htake⟩
      · show _ = Result.ok _ H.w
        rw [← hH]
        exact hrun
      · have hb' : (σx ++ [.dfr, .loop (rec0 (if jump.isNone then .ready else .done) jump) env] ++ τ)[i]? = some b := by
          rw [← htake]
          show (H.σ.take _)[i]? = _
          rw [List.getElem?_take, if_pos hi]
          exact hb
        rcases Nat.lt_or_ge i ((S 0).length + 2) with h1 | h1
        · rw [List.getElem?_append_left (by simp [g3]; omega)] at hb'
          exact bel_le (by rw [hlD]; simp [S']) (hshut σx _ gs i b hb')
        · have := hDS.bel (i := i) (a := b) (by
            rw [hDσ, List.getElem?_append_right (by simp [S', hlen]; omega)]
            rw [List.getElem?_append_right (by simp [g3]; omega)] at hb'
            rw [← hb']
            congr 1
            simp [S', hlen, g3])
          exact this
    have hr0 : rec0 .ready none = rec0 (if (none : Option Code).isNone then .ready else .done) none := rfl
    rintro e a2 w2 ⟨G, env2, rfl, g1, g2, g3, g4, g5, g6⟩
    have hstp : ∀ (e : Exit) (c : Code), jumpOf e = some c → (∃ σx ρ', X e σx ∧ G.σ = σx ++ (([.dfr, .loop { rec0 .ready none with state := .busy } env] ++ τ) ++ ρ')) → ∃ v w', (Instr.endRound (D.φ ((S 0).length + 1)) (some c)).run P G.w = .ok v w' ∧
        ∃ D' b, (Ending.returned v) = .returned (.bool b) ∧ D'.w = w' ∧ Ext D D' ∧ RelS D' ∧ ((b = true ∧ I (k + 1) ∧ D'.σ = S' (k + 1) ++ τ) ∨ (b = false ∧ ∃ σx, X' σx ∧ D'.σ = σx ++ τ)) := by
      rintro e c hc ⟨σx, ρ', hX1, hG1⟩
      obtain ⟨_, hx1, hx2⟩ := hX e σx hX1
      obtain ⟨H, h1, h2, h3, h4⟩ := hfin (some c) G σx ρ' g1 g2 hx1 hx2 hG1
      exact ⟨_, _, h1, H, false, rfl, rfl, h2, h3, .inr ⟨rfl, _, ⟨e, σx, rec0 .done (some c), hX1, by simp [rec0], rfl, hc.symm, rfl⟩, h4⟩⟩
    cases e with
    | normal =>
      obtain ⟨hI1, ρ', hG1⟩ := g6
      obtain ⟨H, h1, h2, h3, h4⟩ := hfin none G (S (k + 1)) ρ' g1 g2 (hlen _) (hsh _ hkl) hG1
      exact ⟨_, _, h1, H, true, rfl, rfl, h2, h3, .inl ⟨rfl, hI1, h4⟩⟩
    | ret => exact hstp .ret _ rfl g6
    | exit id => exact hstp (.exit id) _ rfl g6
    | goto t =>
      obtain ⟨_, _, hX1, _⟩ := g6
      obtain ⟨hk, _⟩ := hX _ _ hX1
      rcases hk with h | ⟨_, h⟩ <;> cases h
    | panic ch =>
      obtain ⟨_, _, hX1, _⟩ := g6
      obtain ⟨hk, _⟩ := hX _ _ hX1
      rcases hk with h | ⟨_, h⟩ <;> cases h
    | outgrown =>
      obtain ⟨_, _, hX1, _⟩ := g6
      obtain ⟨hk, _⟩ := hX _ _ hX1
      rcases hk with h | ⟨_, h⟩ <;> cases h
theorem APure.ofM {f : FuncId} {fn : Func} {c : Code} {args : List AV} {v : AV} (hf : P.funcs[f]? = some fn) (hb : fn.body = some c)
    (h : ∀ σ, AW (.marks σ.length) P Γ c (args ++ List.replicate (fn.ntmps - args.length) .any) σ (fun e env σ' => (e = .normal ∨ e = .ret) ∧ ∃ v', aReturn P fn σ' env = some v' ∧ σ'.take σ.length = σ ∧ Frz σ.length σ' v' v)) : APure P Γ f args v := by
  have := APureOn.ofM (σ := []) (v := v) hf hb (fun τ => by simpa using h τ)
  intro σ
  simpa using this σ
end Go.Proofs.Ev

