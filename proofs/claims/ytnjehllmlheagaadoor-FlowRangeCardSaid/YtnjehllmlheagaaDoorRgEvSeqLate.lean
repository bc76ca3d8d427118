import Derived.Test.YtnjehllmlheagaaDoorRgEvSeqm
/-! An element that is appended in one region and written in the next; a live row that becomes one with the right to append. -/
namespace Go.Proofs.Ev
set_option linter.unusedSimpArgs false
set_option linter.unusedVariables false
open Go
variable {F : Fr} {P : Program} {Γ : List (Nat × List AV)}

/-! A row that lives becomes one that is held with the right to append to it. -/
def Ctx.hold (C : Ctx) (o p len sz : Nat) (cs : List AV) : Ctx := ⟨fun i => if i = C.σ.length then C.φ o else C.φ i, (C.σ.set o .dead).set p (.cells cs) ++ [.cap len sz], C.w⟩
theorem hold_get {C : Ctx} {o p len sz : Nat} {cs cs0 : List AV} (hp : C.σ[p]? = some (.cells cs0)) (hop : p ≠ o) {i : Nat} {x : AO} (h : (C.hold o p len sz cs).σ[i]? = some x) : (i = C.σ.length ∧ x = .cap len sz) ∨ (i ≠ C.σ.length ∧ ((i = p ∧ x = .cells cs) ∨ (i = o ∧ x = .dead) ∨ (i ≠ p ∧ i ≠ o ∧ C.σ[i]? = some x))) := by
  have hlp := (List.getElem?_eq_some_iff.1 hp).1
  simp only [Ctx.hold] at h
  rcases Nat.lt_trichotomy i C.σ.length with hlt | heq | hgt
  · right
    refine ⟨by omega, ?_⟩
    rw [List.getElem?_append_left (by simpa using hlt)] at h
    by_cases hip : i = p
    · subst hip
      rw [List.getElem?_set_self (by simpa using hlt)] at h
      exact .inl ⟨rfl, (Option.some.inj h).symm⟩
    · rw [List.getElem?_set_ne (fun e => hip e.symm)] at h
      by_cases hio : i = o
      · subst hio
        rw [List.getElem?_set_self hlt] at h
        exact .inr (.inl ⟨rfl, (Option.some.inj h).symm⟩)
      · rw [List.getElem?_set_ne (fun e => hio e.symm)] at h
        exact .inr (.inr ⟨hip, hio, h⟩)
  · left
    subst heq
    rw [List.getElem?_append_right (by simp)] at h
    simp at h
    exact ⟨rfl, h.symm⟩
  · rw [List.getElem?_append_right (by simp; omega)] at h
    simp only [List.length_set] at h
    rw [List.getElem?_eq_none (by simp; omega)] at h
    cases h
theorem hold_at {C : Ctx} {o p len sz : Nat} {cs : List AV} {i : Nat} {x : AO} (h : C.σ[i]? = some x) (hip : i ≠ p) (hio : i ≠ o) : (C.hold o p len sz cs).σ[i]? = some x := by
  have hlt := (List.getElem?_eq_some_iff.1 h).1
  simp only [Ctx.hold]
  rw [List.getElem?_append_left (by simpa using hlt), List.getElem?_set_ne (fun e => hip e.symm), List.getElem?_set_ne (fun e => hio e.symm)]
  exact h
set_option maxHeartbeats 1000000 in
theorem AW.hold (o p j : Nat) (es : List AV) {len sz : Nat} {cs0 cs : List AV} {c : Code} {env : Env} {σ : Sto} {Q : Exit → Env → Sto → Prop} (hp : σ[p]? = some (.cells cs)) (ho : σ[o]? = some (.cells cs0)) (hj : cs[j]? = some (.osl o 0 len sz)) (hcs : es.flatMap AV.cells = cs0)
    (hlen : es.length = len) (hne : len ≠ 0) (hsz : ∀ e ∈ es, e.cells.length = sz) (hpos : 0 < sz) (hop : p ≠ o)
    (h : AW F P Γ c env ((σ.set o .dead).set p (.cells (cs.set j (.slo false sz es σ.length))) ++ [.cap len sz]) Q) : AW F P Γ c env σ Q := by
  intro C a hs
  obtain ⟨rfl, hS, hG, hL, hD⟩ := hs
  obtain ⟨arr, T, hb, hn, hl, h1⟩ := hS.cells o cs0 ho
  obtain ⟨xs, l1, l2, l3⟩ := obj_cells hS ho 0
  let D := C.hold o p len sz (cs.set j (.slo false sz es C.σ.length))
  have hlo := (List.getElem?_eq_some_iff.1 ho).1
  have hlp := (List.getElem?_eq_some_iff.1 hp).1
  have hlimo : C.lim o = some 0 := by rw [lim_of ho]; rfl
  have hφ : ∀ i, i ≠ C.σ.length → D.φ i = C.φ i := fun i hi => if_neg hi
  have hφn : D.φ C.σ.length = C.φ o := if_pos rfl
  -- the bounds
  have hlim : ∀ i l, D.lim i = some l → (i = C.σ.length ∧ l = len * sz) ∨ (i ≠ C.σ.length ∧ i ≠ o ∧ C.lim i = some l) := by
    intro i l hl
    obtain ⟨x, g1, g2⟩ := Option.bind_eq_some_iff.1 hl
    rcases hold_get (o := o) (len := len) (sz := sz) (cs := cs.set j (.slo false sz es C.σ.length)) hp hop g1 with ⟨e, rfl⟩ | ⟨e, ⟨rfl, rfl⟩ | ⟨rfl, rfl⟩ | ⟨h1, h2, h3⟩⟩
    · simp only [AO.lim, if_neg hne, Option.some.injEq] at g2
      exact .inl ⟨e, g2.symm⟩
    · right
      refine ⟨e, hop, ?_⟩
      rw [lim_of hp]
      exact g2
    · cases g2
    · right
      refine ⟨e, h2, ?_⟩
      rw [lim_of h3]
      exact g2
  have hfix : ∀ b off, C.FixC b off → D.FixC b off := by
    intro b off hf
    refine ⟨hf.1, fun i l hl e => ?_⟩
    rcases hlim i l hl with ⟨rfl, rfl⟩ | ⟨hi, _, hc⟩
    · rw [hφn] at e
      exact absurd (hf.2 o 0 hlimo e) (by omega)
    · rw [hφ i hi] at e
      exact hf.2 i l hc e
  have hext : Ext C D := by
    refine ⟨Nat.le_refl _, fun i x g1 g2 => ?_, fun i n z g1 => ?_, fun b off hf => ⟨rfl, hfix b off hf⟩, fun b hf => ⟨rfl, hf.1, fun i l hl e => ?_⟩, fun _ arr _ _ h => ⟨arr, h, rfl⟩, fun i g1 => ?_, fun i g1 => ?_, rfl, rfl, rfl⟩
    · have hi := (List.getElem?_eq_some_iff.1 g1).1
      refine ⟨hφ i (by omega), ?_⟩
      by_cases hip : i = p
      · subst hip
        refine ⟨.cells (cs.set j (.slo false sz es C.σ.length)), ?_, rfl⟩
        show ((C.σ.set o .dead).set i _ ++ _)[i]? = _
        rw [List.getElem?_append_left (by simpa using hi), List.getElem?_set_self (by simpa using hi)]
      · by_cases hio : i = o
        · subst hio
          refine ⟨.dead, ?_, rfl⟩
          show ((C.σ.set i .dead).set p _ ++ _)[i]? = _
          rw [List.getElem?_append_left (by simpa using hi), List.getElem?_set_ne (fun e => hip e.symm), List.getElem?_set_self hi]
        · exact ⟨x, hold_at g1 hip hio, g2⟩
    · have hi := (List.getElem?_eq_some_iff.1 g1).1
      refine ⟨n, hold_at g1 (fun e => by rw [e, hp] at g1; cases g1) (fun e => by rw [e, ho] at g1; cases g1), Nat.le_refl _, fun _ => hφ i (by omega)⟩
    · rcases hlim i l hl with ⟨rfl, rfl⟩ | ⟨hi, _, hc⟩
      · rw [hφn] at e
        exact hf.2 o 0 hlimo e
      · rw [hφ i hi] at e
        exact hf.2 i l hc e
    · have hi := (List.getElem?_eq_some_iff.1 g1).1
      refine ⟨hold_at g1 (fun e => by rw [e, hp] at g1; cases g1) (fun e => by rw [e, ho] at g1; cases g1), ?_⟩
      rw [hφ i (by omega)]
      rfl
    · rcases hold_get (o := o) (len := len) (sz := sz) (cs := cs.set j (.slo false sz es C.σ.length)) hp hop g1 with ⟨e, hx⟩ | ⟨e, ⟨rfl, hx⟩ | ⟨rfl, hx⟩ | ⟨g7, g8, h3⟩⟩
      · cases hx
      · cases hx
      · cases hx
      · exact .inl h3
  have hrow : RelRow D es (C.φ o) 0 sz := by
    refine relRow_of hsz ?_
    rw [hcs]
    refine relAt_of (xs := xs) (RelL.mono hext (by simpa using l1)) (fun j u hj => ⟨?_, l3 u (List.mem_of_getElem? hj)⟩) (fun j hj => ⟨lt_of_heap hb, fun i l hl e => ?_⟩)
    · have := l2 j u hj
      rw [add_lit] at this
      exact this
    · rcases hlim i l hl with ⟨rfl, rfl⟩ | ⟨hi, hio, hc⟩
      · have hh : cs0.length = len * sz := by
          rw [← hcs, ← hlen]
          exact flatC_len hsz
        omega
      · rw [hφ i hi] at e
        exact absurd (hS.inj i o (by rw [hc]; rfl) (by rw [hlimo]; rfl) e) hio
  have hcap : D.σ[C.σ.length]? = some (.cap len sz) := by
    show ((C.σ.set o .dead).set p _ ++ _)[C.σ.length]? = _
    rw [List.getElem?_append_right (by simp)]
    simp
  have hval : ∀ x, RelV C (.osl o 0 len sz) x → RelV D (.slo false sz es C.σ.length) x := by
    rintro x ⟨_, c, arr', T', rfl, g1, g2, g3, g4⟩
    refine ⟨len, hcap, by omega, hpos, fun e => by rw [e] at hlen; exact absurd hlen.symm hne, fun _ => ⟨C.φ o, 0, c, by rw [hlen], by omega, g2, fun _ => ⟨hφn.symm, rfl, arr', T', g3, by omega⟩, hrow⟩⟩
  have hset : ∀ {ds : List AV} {ys : List Value} {i : Nat}, ds[i]? = some (.osl o 0 len sz) → RelL C ds ys → RelL D (ds.set i (.slo false sz es C.σ.length)) ys := by
    intro ds
    induction ds with
    | nil => intro ys i h; simp at h
    | cons d ds ih =>
      intro ys i h1 h2
      cases ys with
      | nil => exact h2.elim
      | cons y ys =>
        cases i with
        | zero =>
          simp only [List.getElem?_cons_zero, Option.some.injEq] at h1
          subst h1
          exact ⟨hval _ h2.1, RelL.mono hext h2.2⟩
        | succ i => exact ⟨RelV.mono hext h2.1, ih (by simpa using h1) h2.2⟩
  have hrel : RelS D := by
    refine ⟨fun i ds hk => ?_, fun i ks vs hk => ?_, fun i n z hk hpos' => ?_, fun i hk => ?_, fun i r e hk => ?_, fun i i' g1 g2 e => ?_⟩
    · rcases hold_get (o := o) (len := len) (sz := sz) (cs := cs.set j (.slo false sz es C.σ.length)) hp hop hk with ⟨_, hx⟩ | ⟨hi, ⟨rfl, hx⟩ | ⟨rfl, hx⟩ | ⟨g7, g8, h3⟩⟩
      · cases hx
      · cases hx
        obtain ⟨arr', T', a1, a2, a3, a4⟩ := hS.cells i cs hp
        rw [hφ i hi]
        exact ⟨arr', T', a1, by simpa using a2, by rw [List.length_set]; exact hset hj a3, a4⟩
      · cases hx
      · obtain ⟨arr', T', a1, a2, a3, a4⟩ := hS.cells i ds h3
        rw [hφ i hi]
        exact ⟨arr', T', a1, a2, RelL.mono hext a3, a4⟩
    · rcases hold_get (o := o) (len := len) (sz := sz) (cs := cs.set j (.slo false sz es C.σ.length)) hp hop hk with ⟨_, hx⟩ | ⟨hi, ⟨rfl, hx⟩ | ⟨rfl, hx⟩ | ⟨g7, g8, h3⟩⟩ <;> try (cases hx; done)
      obtain ⟨ds, clock, a1, a2, a3⟩ := hS.map i ks vs h3
      rw [hφ i hi]
      exact ⟨ds, clock, a1, a2, RelL.mono hext a3⟩
    · rcases hold_get (o := o) (len := len) (sz := sz) (cs := cs.set j (.slo false sz es C.σ.length)) hp hop hk with ⟨rfl, hx⟩ | ⟨hi, ⟨rfl, hx⟩ | ⟨rfl, hx⟩ | ⟨g7, g8, h3⟩⟩ <;> try (cases hx; done)
      · cases hx
        rw [hφn]
        refine ⟨arr, T, hb, ?_, h1⟩
        have hh : cs0.length = len * sz := by
          rw [← hcs, ← hlen]
          exact flatC_len hsz
        omega
      · rw [hφ i hi]
        exact hS.cap i n z h3 hpos'
    · rcases hold_get (o := o) (len := len) (sz := sz) (cs := cs.set j (.slo false sz es C.σ.length)) hp hop hk with ⟨_, hx⟩ | ⟨hi, ⟨rfl, hx⟩ | ⟨rfl, hx⟩ | ⟨g7, g8, h3⟩⟩ <;> try (cases hx; done)
      rw [hφ i hi]
      exact hS.dfr i h3
    · rcases hold_get (o := o) (len := len) (sz := sz) (cs := cs.set j (.slo false sz es C.σ.length)) hp hop hk with ⟨_, hx⟩ | ⟨hi, ⟨rfl, hx⟩ | ⟨rfl, hx⟩ | ⟨g7, g8, h3⟩⟩ <;> try (cases hx; done)
      obtain ⟨a1, a2⟩ := hS.loop i r e h3
      rw [hφ i hi]
      exact ⟨a1, RelL.mono hext a2⟩
    · obtain ⟨l, q1⟩ := Option.isSome_iff_exists.1 g1
      obtain ⟨l', q2⟩ := Option.isSome_iff_exists.1 g2
      rcases hlim i l q1 with ⟨rfl, _⟩ | ⟨hi, hio, hc⟩ <;> rcases hlim i' l' q2 with ⟨rfl, _⟩ | ⟨hi', hio', hc'⟩
      · rfl
      · rw [hφn, hφ i' hi'] at e
        exact absurd (hS.inj o i' (by rw [hlimo]; rfl) (by rw [hc']; rfl) e) (fun h => hio' h.symm)
      · rw [hφn, hφ i hi] at e
        exact absurd (hS.inj i o (by rw [hc]; rfl) (by rw [hlimo]; rfl) e) hio
      · rw [hφ i hi, hφ i' hi'] at e
        exact hS.inj i i' (by rw [hc]; rfl) (by rw [hc']; rfl) e
  exact wpIn_mono (h D a ⟨rfl, hrel, RelG.mono hext hG, RelL.mono hext hL, hD.mono hext⟩) fun e a' w hp => hp.trans hext
end Go.Proofs.Ev

