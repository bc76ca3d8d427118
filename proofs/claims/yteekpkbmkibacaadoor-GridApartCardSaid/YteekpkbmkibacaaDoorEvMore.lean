import Derived.Test.YteekpkbmkibacaaDoorEvFrz
import Derived.Test.YteekpkbmkibacaaDoorEvIdx
/-! Loops whose rounds leave things behind; cells told otherwise; strings that are the same. -/
namespace Go.Proofs.Ev
set_option linter.unusedSimpArgs false
set_option linter.unusedVariables false
open Go
variable {F : Fr} {P : Program} {Γ : List (Nat × List AV)}

def AO.bel (n : Nat) : AO → Bool
  | .dead => true
  | .cells cs => belL n cs
  | .map _ vs => belL n vs
  | .cap _ _ => true
  | .dfr => true
  | .loop _ env => belL n env
theorem RelS.bel {C : Ctx} (h : RelS C) {i : Nat} {a : AO} (hi : C.σ[i]? = some a) : a.bel C.σ.length = true := by
  cases a with
  | dead => rfl
  | cells cs =>
    obtain ⟨arr, T, h1, h2, h3, h4⟩ := h.cells i cs hi
    exact RelL.bel h3
  | map ks vs =>
    obtain ⟨es, clock, h1, h2, h3⟩ := h.map i ks vs hi
    exact RelL.bel h3
  | cap n sz => rfl
  | dfr => rfl
  | loop r env => exact RelL.bel (h.loop i r env hi).2
theorem trunc_bel {D : Ctx} (hD : RelS D) {n : Nat} (hb : ∀ (i : Nat) a, i < n → D.σ[i]? = some a → a.bel n = true) : RelS (D.trunc n) := by
  have hlt := trunc_less D n
  refine ⟨fun k cs hk => ?_, fun k ks vs hk => ?_, fun k m sz hk hm => hD.cap k m sz (trunc_get hk).2 hm, fun k hk => hD.dfr k (trunc_get hk).2, fun k r e hk => ⟨(hD.loop k r e (trunc_get hk).2).1, RelL.keep hlt (hb k _ (trunc_get hk).1 (trunc_get hk).2) (hD.loop k r e (trunc_get hk).2).2⟩, fun a b ha hb e => ?_⟩
  · obtain ⟨arr, T, h1, h2, h3, h4⟩ := hD.cells k cs (trunc_get hk).2
    exact ⟨arr, T, h1, h2, RelL.keep hlt (hb k _ (trunc_get hk).1 (trunc_get hk).2) h3, h4⟩
  · obtain ⟨es, clock, h1, h2, h3⟩ := hD.map k ks vs (trunc_get hk).2
    exact ⟨es, clock, h1, h2, RelL.keep hlt (hb k _ (trunc_get hk).1 (trunc_get hk).2) h3⟩
  · obtain ⟨la, ha⟩ := Option.isSome_iff_exists.1 ha
    obtain ⟨lb, hb⟩ := Option.isSome_iff_exists.1 hb
    exact hD.inj a b (by simp [(trunc_lim ha).2]) (by simp [(trunc_lim hb).2]) e
/-- A loop whose rounds may leave objects behind: they are forgotten at each round's end. -/
theorem AW.loop_dr {α : Type} {c : Code} {env : Env} {σ : Sto} {Q : Exit → Env → Sto → Prop} (E : α → Env) (S : α → Sto) (μ : α → Nat) (inv : α → Prop) (x0 : α)
    (h0 : inv x0 ∧ Wk env (E x0) ∧ S x0 = σ)
    (hb : ∀ y, inv y → belL σ.length (E y) = true ∧ ∀ (i : Nat) (a : AO), (S y)[i]? = some a → σ[i]? = some a ∨ a.bel σ.length = true)
    (h : ∀ x, inv x → AW F P Γ c (E x) (S x) (fun e env' σ' => match e with
      | .normal => ∃ y, μ y < μ x ∧ inv y ∧ Wk env' (E y) ∧ σ'.take σ.length = S y
      | e => Q e env' σ')) (hF : F.free = true := by rfl) : AW F P Γ (.loop c) env σ Q := by
  obtain ⟨h1, h2, h3⟩ := h0
  refine AW.weaken h2 ?_
  intro C a hs
  have hσ := hs.σ
  let J : Nat → Act → World → Prop := fun n a w => ∃ D x, μ x = n ∧ D.w = w ∧ Ext C D ∧ inv x ∧ Stands F Γ D a (E x) (S x)
  refine wpIn_loop_ghost J (μ x0) ⟨C, x0, rfl, rfl, Ext.refl _, h1, by rw [h3]; exact hs⟩ ?_
  rintro n a w ⟨D, x, rfl, rfl, k2, k3, k4⟩
  refine wpIn_mono (h x k3 D a k4) fun e a' w' hp => ?_
  obtain ⟨E', env', rfl, l2, l3, l4, l5, l6, l7⟩ := hp
  cases e with
  | normal =>
    obtain ⟨y, m1, m2, m3, m4⟩ := l7
    have hlen : C.σ.length = σ.length := by rw [hσ]
    have hx := trunc_ext (k2.trans l2) hlen
    have hsty : (E'.trunc σ.length).σ = S y := m4
    refine ⟨μ y, m1, E'.trunc σ.length, y, rfl, rfl, hx, m2, ⟨hsty, trunc_bel l3 fun i a hi ha => ?_, RelG.mono hx ?_, RelL.keep (trunc_less _ _) (hb y m2).1 (m3.rel l5), DOk.free hF l6⟩⟩
    · have : (S y)[i]? = some a := by
        rw [← m4, List.getElem?_take, if_pos hi]
        exact ha
      rcases (hb y m2).2 i a this with k | k
      · have := hs.S.bel (i := i) (a := a) (by rw [hσ]; exact k)
        rwa [hσ] at this
      · exact k
    · exact hs.G
  | _ => exact ⟨E', env', rfl, k2.trans l2, l3, l4, l5, l6, l7⟩
theorem bel_app {n : Nat} {l l' : Sto} (σ : Sto) (h : ∀ a ∈ l', AO.bel n a = true) : ∀ (i : Nat) a, (σ ++ l')[i]? = some a → (σ ++ l)[i]? = some a ∨ a.bel n = true := by
  intro i a hi
  rcases Nat.lt_or_ge i σ.length with hlt | hge
  · left
    rw [List.getElem?_append_left hlt] at hi ⊢
    exact hi
  · right
    rw [List.getElem?_append_right hge] at hi
    exact h a (List.mem_of_getElem? hi)
theorem bel_one {n : Nat} {l : Sto} : ∀ (i : Nat) a, l[i]? = some a → l[i]? = some a ∨ a.bel n = true := fun _ _ h => .inl h

/-- An object's cells told otherwise. -/
def Ctx.tell (C : Ctx) (o : Nat) (cs : List AV) : Ctx := { C with σ := C.σ.set o (.cells cs) }
theorem tell_get {C : Ctx} {o k : Nat} {cs cs' : List AV} (ho : C.σ[o]? = some (.cells cs)) : (C.tell o cs').σ[k]? = if k = o then some (.cells cs') else C.σ[k]? := by
  have hlt := (List.getElem?_eq_some_iff.1 ho).1
  simp only [Ctx.tell, List.getElem?_set]
  split
  · rename_i h
    rw [if_pos h.symm]
  · rename_i h
    rw [if_neg (fun e => h e.symm)]
theorem tell_lim {C : Ctx} {o k : Nat} {cs cs' : List AV} (ho : C.σ[o]? = some (.cells cs)) : (C.tell o cs').lim k = C.lim k := by
  simp only [Ctx.lim, tell_get ho]
  split
  · rename_i h
    rw [h, ho]
    rfl
  · rfl
theorem tell_ext {C : Ctx} {o : Nat} {cs cs' : List AV} (ho : C.σ[o]? = some (.cells cs)) : Ext C (C.tell o cs') := {
  size := Nat.le_refl _
  ids := fun k a h1 h2 => ⟨rfl, by
    rw [tell_get ho]
    split
    · exact ⟨_, rfl, rfl⟩
    · exact ⟨a, h1, h2⟩⟩
  caps := fun k n sz h1 => by
    have hk : (C.tell o cs').σ[k]? = some (.cap n sz) := by
      rw [tell_get ho, if_neg]
      · exact h1
      · intro e
        rw [e, ho] at h1
        cases h1
    exact ⟨n, hk, Nat.le_refl _, fun _ => rfl⟩
  fixC := fun b off h => ⟨rfl, h.1, fun k l hk e => h.2 k l (by rw [← tell_lim ho (cs' := cs')]; exact hk) e⟩
  fixB := fun b h => ⟨rfl, h.1, fun k l hk e => h.2 k l (by rw [← tell_lim ho (cs' := cs')]; exact hk) e⟩
  shape := fun b arr T fr h => ⟨arr, h, rfl⟩
  dfr := fun k hk => by
    refine ⟨?_, rfl⟩
    rw [tell_get ho, if_neg]
    · exact hk
    · intro e
      rw [e, ho] at hk
      cases hk
  fresh := fun k hk => by
    rw [tell_get ho] at hk
    split at hk
    · cases hk
    · exact .inl hk
  os := rfl
  tape := rfl
  output := rfl }
theorem tell_rel {C : Ctx} (hS : RelS C) {o : Nat} {cs cs' : List AV} (ho : C.σ[o]? = some (.cells cs)) (hl : cs'.length = cs.length) (hr : ∀ xs, RelL C cs xs → RelL C cs' xs) : RelS (C.tell o cs') := by
  have hx := tell_ext (cs' := cs') ho
  refine ⟨fun k ds hk => ?_, fun k ks vs hk => ?_, fun k m sz hk hm => ?_, fun k hk => ?_, fun k r e hk => ?_, fun a b ha hb e => ?_⟩
  · rw [tell_get ho] at hk
    split at hk
    · rename_i e
      cases hk
      obtain ⟨arr, T, h1, h2, h3, h4⟩ := hS.cells o cs ho
      rw [e]
      exact ⟨arr, T, h1, by rw [hl]; exact h2, by rw [hl]; exact RelL.mono hx (hr _ h3), h4⟩
    · obtain ⟨arr, T, h1, h2, h3, h4⟩ := hS.cells k ds hk
      exact ⟨arr, T, h1, h2, RelL.mono hx h3, h4⟩
  · rw [tell_get ho] at hk
    split at hk
    · cases hk
    · obtain ⟨es, clock, h1, h2, h3⟩ := hS.map k ks vs hk
      exact ⟨es, clock, h1, h2, RelL.mono hx h3⟩
  · rw [tell_get ho] at hk
    split at hk
    · cases hk
    · exact hS.cap k m sz hk hm
  · rw [tell_get ho] at hk
    split at hk
    · cases hk
    · exact hS.dfr k hk
  · rw [tell_get ho] at hk
    split at hk
    · cases hk
    · obtain ⟨h1, h2⟩ := hS.loop k r e hk
      exact ⟨h1, RelL.mono hx h2⟩
  · rw [tell_lim ho] at ha hb
    exact hS.inj a b ha hb e
theorem AW.tell (o : Nat) (cs' : List AV) {cs : List AV} {c : Code} {env : Env} {σ : Sto} {Q : Exit → Env → Sto → Prop} (ho : σ[o]? = some (.cells cs)) (hl : cs'.length = cs.length)
    (hr : ∀ C, C.σ = σ → RelS C → ∀ xs, RelL C cs xs → RelL C cs' xs) (h : AW F P Γ c env (σ.set o (.cells cs')) Q) : AW F P Γ c env σ Q := by
  intro C a hs
  have hσ := hs.σ
  subst hσ
  have hx := tell_ext (cs' := cs') ho
  refine wpIn_mono (h (C.tell o cs') a ⟨rfl, tell_rel hs.S ho hl (hr C rfl hs.S), RelG.mono hx hs.G, RelL.mono hx hs.L, hs.D.mono hx⟩) fun e a' w hp => hp.trans hx
/-- The right to append to a row that does not live yet. -/
theorem AW.cap (sz : Nat) {c : Code} {env : Env} {σ : Sto} {Q : Exit → Env → Sto → Prop} (h : AW F P Γ c env (σ ++ [.cap 0 sz]) Q) : AW F P Γ c env σ Q := by
  intro C a hs
  have hσ := hs.σ
  subst hσ
  have hx := ghost_ext C (ao := .cap 0 sz) (by simp [AO.lim])
  refine wpIn_mono (h (C.ghost (.cap 0 sz)) a ⟨rfl, ghost_rel hs.S (by simp [AO.lim]), RelG.mono hx hs.G, RelL.mono hx hs.L, hs.D.mono hx⟩) fun e a' w hp => hp.trans hx
theorem own_nil {C : Ctx} {k n sz : Nat} (hk : C.σ[k]? = some (.cap n sz)) (hsz : 0 < sz) {x : Value} (h : RelV C .nilsl x) : RelV C (.slo true sz [] k) x :=
  ⟨n, hk, Nat.zero_le _, hsz, fun _ => ⟨none, h, rfl, fun _ h => by cases h⟩, fun h => absurd rfl h⟩
theorem own_at {C : Ctx} {k n sz : Nat} (hk : C.σ[k]? = some (.cap n sz)) (hsz : 0 < sz) : ∀ {cs : List AV} {j : Nat} {xs : List Value}, cs[j]? = some .nilsl → RelL C cs xs → RelL C (cs.set j (.slo true sz [] k)) xs
  | [], _, _, hj, _ => by simp at hj
  | c :: cs, 0, [], _, h => h.elim
  | c :: cs, 0, x :: xs, hj, h => by
    simp only [List.getElem?_cons_zero, Option.some.injEq] at hj
    subst hj
    exact ⟨own_nil hk hsz h.1, h.2⟩
  | c :: cs, j + 1, [], _, h => h.elim
  | c :: cs, j + 1, x :: xs, hj, h => ⟨h.1, own_at hk hsz (by simpa using hj) h.2⟩
/-- A cell that is nil has the right to be appended to. -/
theorem AW.own (o j k : Nat) {n sz : Nat} {cs : List AV} {c : Code} {env : Env} {σ : Sto} {Q : Exit → Env → Sto → Prop} (ho : σ[o]? = some (.cells cs)) (hj : cs[j]? = some .nilsl) (hk : σ[k]? = some (.cap n sz)) (hsz : 0 < sz)
    (h : AW F P Γ c env (σ.set o (.cells (cs.set j (.slo true sz [] k)))) Q) : AW F P Γ c env σ Q :=
  AW.tell o _ ho (by simp) (fun C hC _ xs hl => own_at (by rw [hC]; exact hk) hsz hj hl) h
/-- The right to append is given up. -/
def AV.still : AV → AV
  | .slo nl sz es _ => if es.isEmpty then (if nl then .nilsl else .sl sz []) else .sl sz es
  | v => v
theorem RelV.still {C : Ctx} {v : AV} {x : Value} (h : RelV C v x) : RelV C v.still x := by
  cases v with
  | slo nl sz es k =>
    obtain ⟨n, h1, h2, h3, h4, h5⟩ := h
    cases es with
    | nil =>
      obtain ⟨A, rfl, hA, hs⟩ := h4 rfl
      cases A with
      | none =>
        simp only [Option.isNone_none] at hA
        rw [← hA]
        show RelV C .nilsl _
        rfl
      | some a =>
        simp only [Option.isNone_some] at hA
        rw [← hA]
        show RelV C (.sl sz []) _
        exact ⟨a.block, a.off, 0, a.spot, rfl, .inl rfl, Nat.le_refl _, Nat.zero_le _, trivial⟩
    | cons e es =>
      obtain ⟨b, off, c, rfl, g1, g2, _, g4⟩ := h5 (by simp)
      show RelV C (.sl sz (e :: es)) _
      exact ⟨b, off, c, none, rfl, .inr rfl, g1, g2, g4⟩
  | _ => exact h
theorem still_all {C : Ctx} : ∀ {cs : List AV} {xs : List Value}, RelL C cs xs → RelL C (cs.map AV.still) xs
  | [], [], _ => trivial
  | _ :: _, _ :: _, h => ⟨h.1.still, still_all h.2⟩
  | [], _ :: _, h => h.elim
  | _ :: _, [], h => h.elim
theorem AW.still (o : Nat) {cs : List AV} {c : Code} {env : Env} {σ : Sto} {Q : Exit → Env → Sto → Prop} (ho : σ[o]? = some (.cells cs))
    (h : AW F P Γ c env (σ.set o (.cells (cs.map AV.still))) Q) : AW F P Γ c env σ Q :=
  AW.tell o _ ho (by simp) (fun C _ _ xs hl => still_all hl) h
theorem still_val (v : Value) : AV.still (.val v) = .val v := rfl
theorem still_slo (sz : Nat) (es : List AV) (k : Nat) : AV.still (.slo true sz es k) = rowAV sz true es := by cases es <;> rfl
theorem ret_cell {fn : Func} {t : Tmp} {T : TypeId} {σ : Sto} {env : Env} {v : AV} (h : fn.results.toList = [.cell t T]) (hl : aLoad P σ T (env.getD t .any) = some v) : aReturn P fn σ env = some v := by
  simp only [aReturn, h, aResults, aResult, hl]
theorem load_app (σ l : Sto) (T : TypeId) (k off : Nat) : aLoad P (σ ++ l) T (.ref (σ.length + k) off) = aLoadAt P T off l[k]? := by
  simp only [aLoad, app_get]
  rfl
theorem ba_beq (a b : ByteArray) : (a == b) = decide (a = b) := by
  obtain ⟨x⟩ := a
  obtain ⟨y⟩ := b
  show (x == y) = _
  rw [Bool.eq_iff_iff]
  simp
theorem ba_beqL (a b : ByteArray) : (a.toList == b.toList) = decide (a = b) := by rw [← beq_toListBytes, ba_beq]
end Go.Proofs.Ev
