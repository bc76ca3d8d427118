import Derived.Test.YteekpkbmkibacaaDoorLEvLate
/-! An element that is written behind its append: regions. -/
namespace Go.Proofs.Ev
set_option linter.unusedSimpArgs false
set_option linter.unusedVariables false
open Go
variable {F : Fr} {P : Program} {Γ : List (Nat × List AV)}
theorem setBlk_comm {w : World} {b c : Nat} {x y : Obj} (h : b ≠ c) : setBlk (setBlk w b x) c y = setBlk (setBlk w c y) b x := by
  unfold setBlk
  congr 1
  apply Array.ext'
  simp only [Array.toList_setIfInBounds]
  exact List.set_comm _ _ h
theorem st_run {w : World} {b off : Nat} {arr : Array Value} {T0 T : TypeId} {i : TypeInfo} {y : Value} (hb : w.heap[b]? = some (.cells arr T0 (0, 0))) (hi : P.info? T = some i) (his : i.size = y.cells.toList.length) (hfit : off + y.cells.toList.length ≤ arr.size)
    (h1 : ∀ u ∈ y.cells.toList, u.oneCell' = true) : (Instr.storeAt T (.pointer (some ⟨b, off, none⟩)) y).run P w = .ok () (setBlk w b (.cells (spl arr off y.cells.toList) T0 (0, 0))) := by
  have hst := run_storeCells_at P b off T0 y.cells.toList 0 arr w hb (by simpa using hfit) h1
  simp only [Nat.add_zero] at hst
  have hys : y.cells.size = i.size := by rw [his]; simp
  simp only [Instr.storeAt, Instr.sureAddr, storeVar, Sem.run_bind, Sem.run_pure, Result.andThen_ok, sizeOf, typeInfo]
  simp [hi, hys, hst, setRow_eq _ _ _ _ _ _ hb, spl]
theorem put_eval {a : Act} {t x : Tmp} {y : Value} (h : x ≠ t) : (a.put (some t) y).eval (.tmp x) = a.eval (.tmp x) := by
  simp only [Act.put, Act.eval, Array.getD_eq_getD_getElem?, Array.getElem?_setIfInBounds]
  rw [if_neg (fun e => h e.symm)]
theorem put_same {a : Act} {t : Tmp} {y : Value} (h : t < a.tmps.size) : (a.put (some t) y).eval (.tmp t) = y := by
  simp [Act.put, Act.eval, Array.getD_eq_getD_getElem?, h]
/-- What comes behind an append of one element that is written afterwards. -/
def lateK (P : Program) (σ : Sto) (tS tX T Te Ts : TypeId) (vp vq vi vv va : AV) (KK : AV → Sto → Prop) : Prop :=
  ∃ (nl : Bool) (sz : Nat) (es : List AV) (k : Nat) (d : AV) (o off : Nat) (cs : List AV), vp = .slo nl sz es k ∧ (∃ u σ', aAppendO P σ tS tX nl sz es k vq = some (u, σ')) ∧ aSrcE P tX sz vq = some [d] ∧ vi = .val (.int .i64 (es.length : Nat)) ∧
    vv.cells.length = sz ∧ vv.cells.all AV.one = true ∧ (P.info? Te).map (·.size) = some sz ∧ tSize P T = some sz ∧ va = .ref o off ∧ σ[o]? = some (.cells cs) ∧ off + 1 ≤ cs.length ∧ (P.info? Ts).map (·.size) = some 1 ∧
    KK (.slo nl sz (es ++ [vv]) k) ((σ.set k (.cap (es.length + 1) sz)).set o (.cells (aSplice cs off [.slo nl sz (es ++ [vv]) k])))
theorem lateK.of {σ : Sto} {tS tX T Te Ts : TypeId} {vq vv d u : AV} {σ' : Sto} {KK : AV → Sto → Prop} {nl : Bool} {sz : Nat} {es : List AV} {k o off : Nat} {cs : List AV} {n : Int} (ha : aAppendO P σ tS tX nl sz es k vq = some (u, σ')) (hs : aSrcE P tX sz vq = some [d]) (hn : n = (es.length : Nat))
    (hv : vv.cells.length = sz) (h1 : vv.cells.all AV.one = true) (hTe : (P.info? Te).map (·.size) = some sz) (hT : tSize P T = some sz) (ho : σ[o]? = some (.cells cs)) (hoff : off + 1 ≤ cs.length) (hTs : (P.info? Ts).map (·.size) = some 1)
    (hk : KK (.slo nl sz (es ++ [vv]) k) ((σ.set k (.cap (es.length + 1) sz)).set o (.cells (aSplice cs off [.slo nl sz (es ++ [vv]) k])))) :
    lateK P σ tS tX T Te Ts (.slo nl sz es k) vq (.val (.int .i64 n)) vv (.ref o off) KK :=
  ⟨nl, sz, es, k, d, o, off, cs, rfl, ⟨u, σ', ha⟩, hs, by rw [hn], hv, h1, hTe, hT, rfl, ho, hoff, hTs, hk⟩
end Go.Proofs.Ev

