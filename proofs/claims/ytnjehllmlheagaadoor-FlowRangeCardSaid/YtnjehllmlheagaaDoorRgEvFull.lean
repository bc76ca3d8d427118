import Derived.Test.YtnjehllmlheagaaDoorRgEvMore
import Derived.Test.YtnjehllmlheagaaDoorRgEvFrz
import Derived.Test.YtnjehllmlheagaaDoorRgEvSeqLate
import Derived.Test.YtnjehllmlheagaaDoorRgEvCut
/-! A row that is built full, and what may be told for what. -/
namespace Go.Proofs.Ev
set_option linter.unusedSimpArgs false
set_option linter.unusedVariables false
open Go
variable {F : Fr} {P : Program} {Γ : List (Nat × List AV)}
theorem ARun.opsK {md : Bool} {ops : Array Oper} {K : Env → Sto → Prop} {rest : List Oper} : ∀ {l : List Oper} {env : Env} {σ : Sto}, ARun P Γ md ops (fun env σ => AOps F P Γ ops rest env σ K) l env σ → AOps F P Γ ops (l ++ rest) env σ K
  | [], _, _, h => h
  | o :: l, env, σ, h => by
    unfold ARun at h
    show AOps F P Γ ops (o :: (l ++ rest)) env σ K
    split at h
    · rename_i hw
      exact AOps.skip hw (ARun.opsK h)
    · rename_i hw
      split at h
      · rename_i x as ts hop
        split at h
        · rename_i f caps hx
          obtain ⟨R, hen, hc, hk⟩ := h
          exact AOps.call hw hop hx rfl hen hc fun v σ' hr => ARun.opsK (hk v σ' hr)
        · rename_i l hx
          obtain ⟨R, hc, hk⟩ := h
          exact AOps.yield hw hop hx hc fun b σ' hr => ARun.opsK (hk b σ' hr)
        · exact h.elim
      · split at h
        · rename_i v σ' hop
          exact AOps.op hw hop (ARun.opsK h)
        · exact h.elim
    · exact h.elim
/-- A row is built of as many as are told: it is full. -/
theorem AOps.rowf {ops : Array Oper} {o : Oper} {rest : List Oper} {env : Env} {σ : Sto} {K : Env → Sto → Prop} {T : TypeId} {len : Nat} {parts : Array (Nat × Operand)} {v : AV} (hw : aWanted ops env o = some true) (hop : o.op = .buildSlice T len parts)
    (hv : aBuildRow P T len (aPartsOf Γ env parts.toList) = some v) (h : AOps F P Γ ops rest (aput env o.dst v.full) σ K) : AOps F P Γ ops (o :: rest) env σ K := by
  intro C a Q hs hq
  unfold wpListIn
  rw [if_pos (by rw [aWanted_ok hs.L hw])]
  obtain ⟨z, D, k1, k2, k3, k4, k5⟩ := aBuildRow_ok (P := P) hs.S (qs := parts.map fun (i, x) => (i, a.eval x)) (by simpa using parts_fst a.eval parts.toList) (by simpa using parts_snd hs.G hs.L parts.toList) hv
  have hrun : (execOp a.eval o).run P C.w = .ok (.value z) D.w := by
    simp [execOp, hop, k1]
  refine ⟨fun f _ => fence_fn F f, ?_⟩
  have hgo : wpListIn F.fence 3 P ops Q rest (a.put o.dst z) D.w :=
    h D _ Q (by have := hs.did k3 k4 k5 o.dst; rw [k2, hs.σ] at this; exact this) (fun e a w hp => hq e a w (hp.trans k3))
  rw [Oper.semAt_eq _ _ _ (fun c e => by rw [e] at hop; cases hop), hrun]
  exact hgo
/-- A region in which one row is built full. -/
theorem AW.fullrow (ts1 ts2 : List Nat) (n : Nat) {o : Oper} {id : Nat} {l : List Oper} {y : Code} {env : Env} {σ : Sto} {Q : Exit → Env → Sto → Prop} {T : TypeId} {len : Nat} {parts : Array (Nat × Operand)} {t : Nat} (hd : l.drop n = o :: l.drop (n + 1)) (hop : o.op = .buildSlice T len parts) (hg : o.guard = none) (hdst : o.dst = some t)
    (hk1 : keepB (l.take n) env ts1 = true)
    (h : ∀ K1 : List AV → Sto → Prop, (∀ (vs : List AV) (σ1 : Sto) (v : AV), aBuildRow P T len (aPartsOf Γ (setL env ts1 vs) parts.toList) = some v → keepB (l.drop (n + 1)) ((setL env ts1 vs).set t v.full) ts2 = true →
      (∀ K2 : List AV → Sto → Prop, (∀ ws σ2, AW F P Γ y (setL ((setL env ts1 vs).set t v.full) ts2 ws) σ2 Q → K2 ws σ2) → ARunF P Γ false l.toArray (fun fe σ' => K2 (ts2.map fe) σ') (l.drop (n + 1)) (fun t' => ((setL env ts1 vs).set t v.full).getD t' .any) σ1) → K1 vs σ1) →
      ARunF P Γ false l.toArray (fun fe σ' => K1 (ts1.map fe) σ') (l.take n) (fun t' => env.getD t' .any) σ) : AW F P Γ (.seq (.region id l.toArray false) y) env σ Q := by
  refine AW.seq (AW.region ?_)
  have hh : AOps F P Γ l.toArray (l.take n ++ l.drop n) env σ (fun env' σ' => AW F P Γ y env' σ' Q) := by
    refine ARun.opsK (md := false) ?_
    refine ARun.mono ?_ (ARunF.run (keepB_dst hk1) (Agr.start env (dstsOf (l.take n))) (h (fun vs σ1 => AOps F P Γ l.toArray (l.drop n) (setL env ts1 vs) σ1 (fun env' σ' => AW F P Γ y env' σ' Q)) ?_))
    · rintro env' σ1 ⟨fe, h1, h2⟩
      exact AOps.weaken (by rw [setL_map]; exact h2.wk hk1) h1
    · intro vs σ1 v hv hk2 h2
      rw [hd]
      refine AOps.rowf (by simp [aWanted, hg]) hop hv ?_
      rw [hdst]
      show AOps F P Γ l.toArray (l.drop (n + 1)) ((setL env ts1 vs).set t v.full) σ1 _
      refine ARun.ops (md := false) (ARun.mono ?_ (ARunF.run (keepB_dst hk2) (Agr.start _ (dstsOf (l.drop (n + 1)))) (h2 (fun ws σ2 => AW F P Γ y (setL ((setL env ts1 vs).set t v.full) ts2 ws) σ2 Q) (fun _ _ h => h))))
      rintro env' σ2 ⟨fe, h1, h2⟩
      exact AW.weaken (by rw [setL_map]; exact h2.wk hk2) h1
  rw [List.take_append_drop] at hh
  exact hh
theorem still_f (sz : Nat) (es : List AV) (k : Nat) : AV.still (.slo false sz es k) = .sl sz es := by cases es <;> rfl
/-- What may be told for what. -/
def AV.W (v v' : AV) : Prop := ∀ (C : Ctx) (x : Value), RelV C v x → RelV C v' x
theorem W_refl (v : AV) : v.W v := fun _ _ h => h
theorem W_full (sz : Nat) (es : List AV) : AV.W (.slf sz es) (.sl sz es) := fun _ _ h => slf_sl h
def WL : List AV → List AV → Prop
  | [], [] => True
  | c :: cs, d :: ds => c.W d ∧ WL cs ds
  | _, _ => False
theorem WL_refl : ∀ l : List AV, WL l l
  | [] => trivial
  | c :: l => ⟨W_refl c, WL_refl l⟩
theorem WL_len : ∀ {cs ds : List AV}, WL cs ds → cs.length = ds.length
  | [], [], _ => rfl
  | _ :: _, _ :: _, h => congrArg (· + 1) (WL_len h.2)
  | [], _ :: _, h => h.elim
  | _ :: _, [], h => h.elim
theorem WL_rel {C : Ctx} : ∀ {cs ds : List AV} {xs : List Value}, WL cs ds → RelL C cs xs → RelL C ds xs
  | [], [], [], _, _ => trivial
  | [], [], _ :: _, _, h => h
  | _ :: _, _ :: _, [], _, h => h.elim
  | _ :: _, _ :: _, x :: xs, hw, h => ⟨hw.1 C x h.1, WL_rel hw.2 h.2⟩
  | [], _ :: _, _, hw, _ => hw.elim
  | _ :: _, [], _, hw, _ => hw.elim
theorem WL_at {C : Ctx} : ∀ {cs ds : List AV} {b off : Nat}, WL cs ds → RelAt C cs b off → RelAt C ds b off
  | [], [], _, _, _, _ => trivial
  | c :: cs, d :: ds, b, off, hw, h => by
    simp only [RelAt] at h ⊢
    obtain ⟨⟨v, h1, h2, h3⟩, h4, h5⟩ := h
    exact ⟨⟨v, h1, h2, hw.1 C v h3⟩, h4, WL_at hw.2 h5⟩
  | [], _ :: _, _, _, hw, _ => hw.elim
  | _ :: _, [], _, _, hw, _ => hw.elim
def WR : List AV → List AV → Prop
  | [], [] => True
  | e :: es, d :: ds => WL e.cells d.cells ∧ WR es ds
  | _, _ => False
theorem WR_map {α : Type} {f g : α → AV} (h : ∀ a, WL (f a).cells (g a).cells) : ∀ l : List α, WR (l.map f) (l.map g)
  | [] => trivial
  | a :: l => ⟨h a, WR_map h l⟩
theorem WR_len : ∀ {cs ds : List AV}, WR cs ds → cs.length = ds.length
  | [], [], _ => rfl
  | _ :: _, _ :: _, h => congrArg (· + 1) (WR_len h.2)
  | [], _ :: _, h => h.elim
  | _ :: _, [], h => h.elim
theorem WR_rel {C : Ctx} : ∀ {es ds : List AV} {b off sz : Nat}, WR es ds → RelRow C es b off sz → RelRow C ds b off sz
  | [], [], _, _, _, _, _ => by simp only [RelRow]
  | e :: es, d :: ds, b, off, sz, hw, h => by
    obtain ⟨h1, h2, h3⟩ := relRow_cons.1 h
    exact relRow_cons.2 ⟨by rw [← WL_len hw.1]; exact h1, WL_at hw.1 h2, WR_rel hw.2 h3⟩
  | [], _ :: _, _, _, _, hw, _ => hw.elim
  | _ :: _, [], _, _, _, hw, _ => hw.elim
theorem W_sl {sz : Nat} {es ds : List AV} (h : WR es ds) : AV.W (.sl sz es) (.sl sz ds) := fun C x hx => by
  simp only [RelV] at hx ⊢
  obtain ⟨b, off, c, s, e, hs, h1, h2, hr⟩ := hx
  have hl := WR_len h
  refine ⟨b, off, c, s, by rw [← hl]; exact e, ?_, by rw [← hl]; exact h1, h2, WR_rel h hr⟩
  rcases hs with rfl | e
  · cases ds with
    | nil => exact .inl rfl
    | cons _ _ => exact h.elim
  · exact .inr e
/-- An object's cells may be told as others. -/
theorem AW.tellW (o : Nat) (cs' : List AV) {cs : List AV} {c : Code} {env : Env} {σ : Sto} {Q : Exit → Env → Sto → Prop} (ho : σ[o]? = some (.cells cs)) (hw : WL cs cs') (h : AW F P Γ c env (σ.set o (.cells cs')) Q) : AW F P Γ c env σ Q :=
  AW.tell o cs' ho (WL_len hw).symm (fun _ _ _ _ hl => WL_rel hw hl) h
end Go.Proofs.Ev

