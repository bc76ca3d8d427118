import Derived.Test.YteekpkbmkibacaaDoorLEvSeqLate
/-! Two operations of a drawn region that may come in either order; a coin. -/
namespace Go.Proofs.Ev
set_option linter.unusedSimpArgs false
set_option linter.unusedVariables false
open Go
variable {F : Fr} {P : Program} {Γ : List (Nat × List AV)}
set_option maxHeartbeats 1000000 in
theorem ADraw.pair (md : Bool) {ops : Array Oper} {env : Env} {σ : Sto} {K : Env → Sto → Prop} {s : Nat} {o1 o2 : Oper} {l : List Oper} (hb : blockB .any ops s 2 = true)
    (h1 : ARun P Γ md ops (fun env' σ' => ARun P Γ md ops (fun env'' σ'' => ADraw F P Γ ops (s + 2) l env'' σ'' K) [o2] env' σ') [o1] env σ)
    (h2 : ARun P Γ md ops (fun env' σ' => ARun P Γ md ops (fun env'' σ'' => ADraw F P Γ ops (s + 2) l env'' σ'' K) [o1] env' σ') [o2] env σ) : ADraw F P Γ ops s (o1 :: o2 :: l) env σ K := by
  intro C a Q fuel listed hs hsz hL hf hl hd hq
  have hB := blockB_spec hb
  obtain ⟨o1', ho1, hed1⟩ := hB.fit s (Nat.le_refl _) (by omega)
  obtain ⟨o2', ho2, hed2⟩ := hB.fit (s + 1) (by omega) (by omega)
  have e1 : o1' = o1 := by
    have := hl 0
    simp only [Nat.add_zero, ho1, List.getElem?_cons_zero] at this
    cases this
    rfl
  have e2 : o2' = o2 := by
    have := hl 1
    simp only [ho2, List.getElem?_cons_succ, List.getElem?_cons_zero] at this
    cases this
    rfl
  subst e1
  subst e2
  have hn := (Array.getElem?_eq_some_iff.1 ho2).1
  have hn1 := (Array.getElem?_eq_some_iff.1 ho1).1
  have second : ∀ (f g : Nat) (og : Oper), (f = s ∧ g = s + 1) ∨ (f = s + 1 ∧ g = s) → ops[g]? = some og → ∀ (D : Ctx) (a' : Act) (env' : Env) (fuel : Nat) (listed : Array Bool), ARun P Γ md ops (fun env'' σ'' => ADraw F P Γ ops (s + 2) l env'' σ'' K) [og] env' D.σ → Stands F Γ D a' env' D.σ → Ext C D → listed.size = ops.size →
      (∀ i, i < ops.size → isL listed i = (decide (i < s) || decide (i = f))) → Down .any ops (isL listed) → ops.size - s - 1 ≤ fuel → wpAnyIn F.fence 3 P .any ops Q fuel listed a' D.w := by
    intro f g og hfg hog D a' env' fuel listed hr hs hE hsz hL hd hf
    have hgn := (Array.getElem?_eq_some_iff.1 hog).1
    have hfn : f < ops.size := by omega
    cases fuel with
    | zero => omega
    | succ fuel =>
      have hnot : isL listed g = false := by
        rw [hL g hgn]
        simp
        omega
      have hedg : ∀ e ∈ edges .any og, isL listed e = true := by
        intro e he
        rcases hfg with ⟨rfl, rfl⟩ | ⟨rfl, rfl⟩
        · rw [ho2] at hog
          cases hog
          have := hed2 e he
          rw [hL e (by omega)]
          simp
          omega
        · rw [ho1] at hog
          cases hog
          have := hed1 e he
          rw [hL e (by omega)]
          simp
          omega
      refine ⟨fun hr' => ?_, fun i hi => ?_⟩
      · exfalso
        have : g ∈ Region.ready .any ops listed := (mem_ready hsz).2 ⟨hgn, hnot, og, hog, hedg⟩
        rw [hr'] at this
        cases this
      · obtain ⟨g1, g2, o', ho', g3⟩ := (mem_ready hsz).1 hi
        have hi : i = g := by
          rcases Nat.lt_or_ge i (s + 2) with h | h
          · rw [hL i g1] at g2
            simp at g2
            omega
          · have := hd.anc (hB.after i g1 h g (by omega) (by omega)) (fun o'' ho'' => by rw [ho'] at ho''; cases ho''; exact g3)
            rw [hnot] at this
            cases this
        subst hi
        rw [hog] at ho'
        cases ho'
        refine step_ok hog hr hs ?_
        intro E a'' env'' he hs' hk
        have hisz : i < listed.size := by omega
        refine hk E a'' Q fuel (listed.setIfInBounds i true) hs' (by simpa using hsz) (fun j hj => ?_) (by omega) (fun j => ?_) (hd.set hisz (fun o' ho' => by rw [hog] at ho'; cases ho'; exact g3)) (fun e a w hp => hq e a w (hp.trans (hE.trans he)))
        · rw [isL_set hisz, hL j hj]
          rw [Bool.eq_iff_iff]
          simp
          omega
        · have := hl (j + 2)
          simpa [Nat.add_assoc, Nat.add_comm 2 j] using this
  cases fuel with
  | zero => omega
  | succ fuel =>
    have hnot : isL listed s = false := by rw [hL s hn1]; simp
    refine ⟨fun hr => ?_, fun i hi => ?_⟩
    · exfalso
      have : s ∈ Region.ready .any ops listed := (mem_ready hsz).2 ⟨hn1, hnot, o1', ho1, fun e he => by
        have := hed1 e he
        rw [hL e (by omega)]
        simp [this]⟩
      rw [hr] at this
      cases this
    · obtain ⟨g1, g2, o', ho', g3⟩ := (mem_ready hsz).1 hi
      have hi : i = s ∨ i = s + 1 := by
        rcases Nat.lt_or_ge i (s + 2) with h | h
        · rw [hL i g1] at g2
          simp at g2
          omega
        · have := hd.anc (hB.after i g1 h s (by omega) (by omega)) (fun o'' ho'' => by rw [ho'] at ho''; cases ho''; exact g3)
          rw [hnot] at this
          cases this
      have hisz : i < listed.size := by omega
      have hset : ∀ j, j < ops.size → isL (listed.setIfInBounds i true) j = (decide (j < s) || decide (j = i)) := fun j hj => by
        rw [isL_set hisz, hL j hj, Bool.or_comm]
      have hdn := hd.set hisz (fun o'' ho'' => by rw [ho'] at ho''; cases ho''; exact g3)
      rcases hi with rfl | rfl
      · refine step_ok ho1 h1 hs ?_
        intro D a' env' he hs' hk
        exact second i (i + 1) o2' (.inl ⟨rfl, rfl⟩) ho2 D a' env' fuel _ hk hs' he (by simpa using hsz) hset hdn (by omega)
      · refine step_ok ho2 h2 hs ?_
        intro D a' env' he hs' hk
        exact second (s + 1) s o1' (.inr ⟨rfl, rfl⟩) ho1 D a' env' fuel _ hk hs' he (by simpa using hsz) hset hdn (by omega)
/-- A coin: two stores into a fresh cell, in either order. -/
theorem AW.coin (hm : P.follows .mixedOrders = true) {id : Nat} {T : TypeId} {t r : Tmp} {b1 b2 : Bool} {ty0 ty1 ty2 ty3 : TypeId} {pos0 pos1 pos2 pos3 : String} {af0 af1 af2 af3 : Array Edge} {y : Code} {env : Env} {σ : Sto} {Q : Exit → Env → Sto → Prop}
    (hb : blockB .any #[⟨some t, .alloc T, ty0, pos0, af0, none⟩, ⟨none, .store T (.tmp t) (.const (.bool b1)), ty1, pos1, af1, none⟩, ⟨none, .store T (.tmp t) (.const (.bool b2)), ty2, pos2, af2, none⟩, ⟨some r, .load T (.tmp t), ty3, pos3, af3, none⟩] 0 1 = true)
    (hb2 : blockB .any #[⟨some t, .alloc T, ty0, pos0, af0, none⟩, ⟨none, .store T (.tmp t) (.const (.bool b1)), ty1, pos1, af1, none⟩, ⟨none, .store T (.tmp t) (.const (.bool b2)), ty2, pos2, af2, none⟩, ⟨some r, .load T (.tmp t), ty3, pos3, af3, none⟩] 1 2 = true)
    (hb3 : blockB .any #[⟨some t, .alloc T, ty0, pos0, af0, none⟩, ⟨none, .store T (.tmp t) (.const (.bool b1)), ty1, pos1, af1, none⟩, ⟨none, .store T (.tmp t) (.const (.bool b2)), ty2, pos2, af2, none⟩, ⟨some r, .load T (.tmp t), ty3, pos3, af3, none⟩] 3 1 = true)
    (ht : env[t]? = some .any) (hr : env[r]? = some .any) (hne : t ≠ r)
    (hz : aop P Γ false σ env (.alloc T) = some (.ref σ.length 0, σ ++ [.cells [.val (.bool false)]]))
    (hst : ∀ (b c : Bool) (env' : Env), env'[t]? = some (.ref σ.length 0) → aop P Γ false (σ ++ [.cells [.val (.bool c)]]) env' (.store T (.tmp t) (.const (.bool b))) = some (.any, σ ++ [.cells [.val (.bool b)]]))
    (hld : ∀ (c : Bool) (env' : Env), env'[t]? = some (.ref σ.length 0) → aop P Γ false (σ ++ [.cells [.val (.bool c)]]) env' (.load T (.tmp t)) = some (.val (.bool c), σ ++ [.cells [.val (.bool c)]]))
    (h : ∀ b, AW F P Γ y (env.set r (.val (.bool b))) (σ ++ [.cells [.val (.bool b)]]) Q) :
    AW F P Γ (.seq (.region id #[⟨some t, .alloc T, ty0, pos0, af0, none⟩, ⟨none, .store T (.tmp t) (.const (.bool b1)), ty1, pos1, af1, none⟩, ⟨none, .store T (.tmp t) (.const (.bool b2)), ty2, pos2, af2, none⟩, ⟨some r, .load T (.tmp t), ty3, pos3, af3, none⟩] true) y) env σ Q := by
  have htl := (List.getElem?_eq_some_iff.1 ht).1
  have hrl := (List.getElem?_eq_some_iff.1 hr).1
  have ht1 : (env.set t (.ref σ.length 0))[t]? = some (.ref σ.length 0) := List.getElem?_set_self htl
  have main : ∀ K : Env → Sto → Prop, (∀ b env', Wk env' (env.set r (.val (.bool b))) → K env' (σ ++ [.cells [.val (.bool b)]])) → ADraw F P Γ #[⟨some t, .alloc T, ty0, pos0, af0, none⟩, ⟨none, .store T (.tmp t) (.const (.bool b1)), ty1, pos1, af1, none⟩, ⟨none, .store T (.tmp t) (.const (.bool b2)), ty2, pos2, af2, none⟩, ⟨some r, .load T (.tmp t), ty3, pos3, af3, none⟩] 0 [⟨some t, .alloc T, ty0, pos0, af0, none⟩, ⟨none, .store T (.tmp t) (.const (.bool b1)), ty1, pos1, af1, none⟩, ⟨none, .store T (.tmp t) (.const (.bool b2)), ty2, pos2, af2, none⟩, ⟨some r, .load T (.tmp t), ty3, pos3, af3, none⟩] env σ K := by
    intro K hK
    have fin : ∀ b, ADraw F P Γ #[⟨some t, .alloc T, ty0, pos0, af0, none⟩, ⟨none, .store T (.tmp t) (.const (.bool b1)), ty1, pos1, af1, none⟩, ⟨none, .store T (.tmp t) (.const (.bool b2)), ty2, pos2, af2, none⟩, ⟨some r, .load T (.tmp t), ty3, pos3, af3, none⟩] 3 [⟨some r, .load T (.tmp t), ty3, pos3, af3, none⟩] (env.set t (.ref σ.length 0)) (σ ++ [.cells [.val (.bool b)]]) K := fun b => by
      refine ADraw.one false hb3 ?_
      simp only [ARun, aWanted, hld b _ ht1]
      refine ADraw.done (hK b _ ?_)
      simp only [aput]
      refine wk_of (by simp) fun s => ?_
      simp only [List.getD_eq_getElem?_getD]
      by_cases hsr : s = r
      · subst hsr
        rw [List.getElem?_set_self hrl, List.getElem?_set_self (by simpa using hrl)]
        exact .inr rfl
      · rw [List.getElem?_set_ne (Ne.symm hsr), List.getElem?_set_ne (Ne.symm hsr)]
        by_cases hst' : s = t
        · subst hst'
          rw [ht]
          exact .inl rfl
        · rw [List.getElem?_set_ne (Ne.symm hst')]
          exact .inr rfl
    refine ADraw.one false hb ?_
    simp only [ARun, aWanted, hz]
    refine ADraw.pair false hb2 ?_ ?_
    · simp only [ARun, aWanted, aput, hst b1 false _ ht1, hst b2 b1 _ ht1]
      exact fin b2
    · simp only [ARun, aWanted, aput, hst b2 false _ ht1, hst b1 b2 _ ht1]
      exact fin b1
  refine AW.seq (AW.mono (Q := fun e env' σ' => e = .normal ∧ ∃ b, Wk env' (env.set r (.val (.bool b))) ∧ σ' = σ ++ [.cells [.val (.bool b)]]) ?_ ?_)
  · exact AW.draw (l := [_, _, _, _]) hm (main _ fun b env' hw => ⟨rfl, b, hw, rfl⟩)
  · rintro e env' σ' ⟨rfl, b, hw, rfl⟩
    exact AW.weaken hw (h b)
end Go.Proofs.Ev

