import Derived.Test.YtnfimclkiccdhaaDoorPtEvCode
import Derived.Test.YtnfimclkiccdhaaDoorPtEvApT
/-! What is known of other identities (ghosts) is laid: behind an allocation, behind an append. -/
namespace Go.Proofs.Ev
set_option linter.unusedSimpArgs false
set_option linter.unusedVariables false
open Go
variable {F : Fr} {P : Program} {Γ : List (Nat × List AV)}
def Ctx.gset (C : Ctx) (g : Nat) (x : Ghost) : Ctx := { C with σ := C.σ.set g (.gh x) }
theorem gset_get {C : Ctx} {g k : Nat} {x : Ghost} (hg : g < C.σ.length) : (C.gset g x).σ[k]? = if k = g then some (.gh x) else C.σ[k]? := by
  simp only [Ctx.gset, List.getElem?_set]
  by_cases e : k = g
  · rw [if_pos e.symm, if_pos e, if_pos hg]
  · rw [if_neg (fun h => e h.symm), if_neg e]
theorem gset_lim {C : Ctx} {g k l : Nat} {x g0 : Ghost} (hg : C.σ[g]? = some (.gh g0)) : (C.gset g x).lim k = some l ↔ C.lim k = some l := by
  unfold Ctx.lim
  rw [gset_get (get_lt hg)]
  split
  · rename_i e
    rw [e, hg]
    simp [AO.lim]
  · rfl
theorem gset_ext {C : Ctx} {g : Nat} {x g0 : Ghost} (hg : C.σ[g]? = some (.gh g0)) : Ext C (C.gset g x) := by
  have hl := get_lt hg
  refine ⟨Nat.le_refl _, fun k a h1 h2 => ⟨rfl, ?_⟩, fun k n sz h1 => ⟨n, ?_, Nat.le_refl _, fun _ => rfl⟩, fun b off h => ⟨rfl, h.1, fun o l ho => h.2 o l ((gset_lim hg).1 ho)⟩, fun b h => ⟨rfl, h.1, fun o l ho => h.2 o l ((gset_lim hg).1 ho)⟩, fun _ arr _ fr h => ⟨arr, fr, h, rfl⟩, fun k hk => ⟨?_, rfl⟩, fun k hk => .inl ?_, rfl, rfl, rfl⟩
  · rw [gset_get hl]
    split
    · exact ⟨_, rfl, rfl⟩
    · exact ⟨a, h1, h2⟩
  · rw [gset_get hl, if_neg]
    · exact h1
    · intro e
      rw [e, hg] at h1
      cases h1
  · rw [gset_get hl, if_neg]
    · exact hk
    · intro e
      rw [e, hg] at hk
      cases hk
  · rw [gset_get hl] at hk
    split at hk
    · cases hk
    · exact hk
theorem gset_rel {C : Ctx} (hS : RelS C) {g : Nat} {x g0 : Ghost} (hg : C.σ[g]? = some (.gh g0)) (hx : GhOk C x) : RelS (C.gset g x) := by
  have hE := gset_ext (x := x) hg
  refine RelS.of (fun k a ho => ?_) (fun a b ha hb e => ?_)
  · rw [gset_get (get_lt hg)] at ho
    split at ho
    · cases ho
      exact GhOk.mono hE hx
    · exact (hS.good ho).mono hE rfl (fun _ => rfl)
  · obtain ⟨la, ha⟩ := Option.isSome_iff_exists.1 ha
    obtain ⟨lb, hb⟩ := Option.isSome_iff_exists.1 hb
    exact hS.inj a b (by rw [(gset_lim hg).1 ha]; rfl) (by rw [(gset_lim hg).1 hb]; rfl) e
/-- append, and what is known of the row's block. -/
theorem AOps.appT {ops : Array Oper} {o : Oper} {rest : List Oper} {env : Env} {σ σ' : Sto} {K : Env → Sto → Prop} {x y : Operand} {tS tX e0 : TypeId} {nl : Bool} {sz k g : Nat} {es es' : List AV}
    (hw : aWanted ops env o = some true) (hop : o.op = .call { callee := .builtin .append, args := #[x, y], argTypes := #[tS, tX] }) (hx : opnd Γ env x = .slo nl sz es k)
    (ha : aAppendO P σ tS tX nl sz es k (opnd Γ env y) = some (.slo nl sz es' k, σ')) (he0 : P.underlying tS = some (.slice e0)) (hg : σ[g]? = some (.gh (.cty k es.length e0)))
    (h : AOps F P Γ ops rest (aput env o.dst (.slo nl sz es' k)) (σ'.set g (.gh (.cty k es'.length e0))) K) : AOps F P Γ ops (o :: rest) env σ K := by
  intro C a Q hs hq
  unfold wpListIn
  rw [if_pos (by rw [aWanted_ok hs.L hw])]
  refine ⟨fun f _ => fence_fn F f, ?_⟩
  have hxo := opnd_ok hs.G hs.L x
  have hyo := opnd_ok hs.G hs.L y
  rw [hx] at hxo
  have hσ := hs.σ
  rw [← hσ] at ha hg
  obtain ⟨n0, sz0, c1, c2, c3⟩ := hs.S.gh g _ hg
  obtain ⟨m0, d1, d2, d3, d4, d5⟩ := hxo
  have hxo : RelV C (.slo nl sz es k) (a.eval x) := ⟨m0, d1, d2, d3, d4, d5⟩
  rw [c1] at d1
  cases d1
  have hcap : C.σ[k]? = some (.cap es.length sz) := by
    unfold aAppendO at ha
    split at ha <;> try (simp at ha; done)
    split at ha <;> try (simp at ha; done)
    split at ha <;> try (simp at ha; done)
    split at ha <;> try (simp at ha; done)
    split at ha <;> try (simp at ha; done)
    split at ha <;> try (simp at ha; done)
    rename_i hc
    exact of_cap hc.1
  have hn0 : n0 = es.length := by
    rw [c1] at hcap
    cases hcap
    rfl
  obtain ⟨z, D, hrun, k1, k2, k3, k4, k5⟩ := aAppendOT_ok (P := P) (ty := o.type) hs.S hxo hyo ha he0 (fun hne => c3 hn0 (List.length_pos_iff.2 hne))
  have hz0 := k4
  have hgk : g ≠ k := fun e => by rw [e, hcap] at hg; cases hg
  have hgD : D.σ[g]? = some (.gh (.cty k es.length e0)) := by
    rw [k1]
    unfold aAppendO at ha
    split at ha <;> try (simp at ha; done)
    split at ha <;> try (simp at ha; done)
    split at ha <;> try (simp at ha; done)
    split at ha <;> try (simp at ha; done)
    split at ha <;> try (simp at ha; done)
    split at ha <;> try (simp at ha; done)
    split at ha
    · cases ha
      exact hg
    · cases ha
      rw [List.getElem?_set, if_neg (fun e => hgk e.symm)]
      exact hg
  obtain ⟨n1, q1, q2, _⟩ := hz0
  have hx1 : GhOk D (.cty k es'.length e0) := ⟨n1, sz, q1, q2, fun _ hpos => k5 es' rfl (List.length_pos_iff.1 hpos)⟩
  have hE2 := gset_ext (x := .cty k es'.length e0) hgD
  have hR2 := gset_rel k3 hgD hx1
  have hrun' : (execOp a.eval o).run P C.w = .ok (.value z) D.w := by
    obtain ⟨dst, op, ty, pos, after, guard⟩ := o
    simp only at hop
    subst hop
    have hrun2 : (Builtin.append_ #[tS, tX] ty #[a.eval x, a.eval y]).run P C.w = .ok z D.w := hrun
    simp [execOp, resolve, invoke, builtin, hrun2]
  have hgo : wpListIn F.fence 3 P ops Q rest (a.put o.dst z) (D.gset g (.cty k es'.length e0)).w :=
    h (D.gset g (.cty k es'.length e0)) _ Q (by
      have := hs.did (k2.trans hE2) hR2 (RelV.mono hE2 k4) o.dst
      rw [show (D.gset g (.cty k es'.length e0)).σ = σ'.set g (.gh (.cty k es'.length e0)) from by rw [← k1]; rfl] at this
      exact this) (fun e a w hp => hq e a w (hp.trans (k2.trans hE2)))
  rw [Oper.semAt_eq _ _ _ (fun c e => by rw [hop] at e; cases e), hrun']
  exact hgo
/-- An allocation, and the shape of what is allotted. -/
theorem AOps.allocS {ops : Array Oper} {o : Oper} {rest : List Oper} {env : Env} {σ : Sto} {K : Env → Sto → Prop} {T : TypeId} {z : AV}
    (hw : aWanted ops env o = some true) (hop : o.op = .alloc T) (hz : aZero P T = some z) (h1 : z.cells.all AV.one = true)
    (h : AOps F P Γ ops rest (aput env o.dst (.ref σ.length 0)) (σ ++ [.cells z.cells, .gh (.shp σ.length T z.cells.length)]) K) : AOps F P Γ ops (o :: rest) env σ K := by
  intro C a Q hs hq
  unfold wpListIn
  rw [if_pos (by rw [aWanted_ok hs.L hw])]
  refine ⟨fun f _ => fence_fn F f, ?_⟩
  have hσ := hs.σ
  simp only [aZero] at hz
  split at hz <;> try (simp at hz; done)
  rename_i i hi
  obtain ⟨x, hx, rfl⟩ := Option.map_eq_some_iff.1 hz
  have hcl := cells_ok (ofConst_ok C x) h1
  have hlen := relL_length hcl
  let D0 : Ctx := C.new (.cells (ofConst x).cells) (.cells x.cells T)
  have hE0 : Ext C D0 := new_ext hs.S _ _
  have hS0 : RelS D0 := new_cells hs.S T (by rw [hlen, List.take_length]; exact hcl) (by rw [hlen]; simp) (ones_ok hcl h1)
  have hat : D0.σ[C.σ.length]? = some (.cells (ofConst x).cells) := by simp [D0, Ctx.new]
  have hgh : GhOk D0 (.shp C.σ.length T (ofConst x).cells.length) := by
    refine ⟨⟨_, hat, rfl⟩, x.cells, (0, 0), ?_, by rw [hlen]; simp⟩
    rw [new_φ_at]
    exact heap_alloc_at _ _
  let D : Ctx := D0.ghost (.gh (.shp C.σ.length T (ofConst x).cells.length))
  have hE : Ext D0 D := ghost_ext D0 rfl
  have hS : RelS D := ghost_rel hS0 rfl (fun g e => by cases e; exact hgh)
  have hrun : (execOp a.eval o).run P C.w = .ok (.value (.pointer (some ⟨D.φ C.σ.length, 0, none⟩))) D.w := by
    obtain ⟨dst, op, ty, pos, after, guard⟩ := o
    simp only at hop
    subst hop
    have hn : (newVar T x).run P C.w = .ok ⟨D.φ C.σ.length, 0, none⟩ D.w := by
      show (newVar T x).run P C.w = .ok ⟨D0.φ C.σ.length, 0, none⟩ D0.w
      rw [new_φ_at]
      simp [newVar, newRow, D0, Ctx.new]
    simp [execOp, Instr.alloc, zeroValue, typeInfo, hi, hx, hn]
  have hgo : wpListIn F.fence 3 P ops Q rest (a.put o.dst (.pointer (some ⟨D.φ C.σ.length, 0, none⟩))) D.w :=
    h D _ Q (by
      have := hs.did (hE0.trans hE) hS (v := .ref C.σ.length 0) (y := .pointer (some ⟨D.φ C.σ.length, 0, none⟩)) ⟨⟨_, (app1_old hat : D.σ[C.σ.length]? = _), rfl⟩, rfl⟩ o.dst
      rw [show D.σ = σ ++ [.cells (ofConst x).cells, .gh (.shp σ.length T (ofConst x).cells.length)] from by rw [← hσ]; simp [D, D0, Ctx.ghost, Ctx.new]] at this
      rw [← hσ] at this ⊢
      exact this) (fun e a w hp => hq e a w (hp.trans (hE0.trans hE)))
  rw [Oper.semAt_eq _ _ _ (fun c e => by rw [hop] at e; cases e), hrun]
  exact hgo
/-- What is known of the row of k, that has nothing yet. -/
theorem AW.cty0 (k : Nat) (T : TypeId) {sz : Nat} {c : Code} {env : Env} {σ : Sto} {Q : Exit → Env → Sto → Prop} (hk : σ[k]? = some (.cap 0 sz)) (h : AW F P Γ c env (σ ++ [.gh (.cty k 0 T)]) Q) : AW F P Γ c env σ Q := by
  intro C a hs
  have hσ := hs.σ
  subst hσ
  have hE : Ext C (C.ghost (.gh (.cty k 0 T))) := ghost_ext C rfl
  have hS := ghost_rel hs.S (ao := .gh (.cty k 0 T)) rfl (fun g e => by cases e; exact ⟨0, sz, hk, Nat.le_refl _, fun _ h => absurd h (by decide)⟩)
  exact wpIn_mono (h (C.ghost (.gh (.cty k 0 T))) a ⟨rfl, hS, RelG.mono hE hs.G, RelL.mono hE hs.L, hs.D.mono hE⟩) fun e a w hp => hp.trans hE
end Go.Proofs.Ev

