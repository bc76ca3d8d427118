import Derived.Test.YteekpkbmkibacaaDoorEvSeqm
/-! Entries of maps that are set at once; maps whose keys are ints. -/
namespace Go.Proofs.Ev
set_option linter.unusedSimpArgs false
set_option linter.unusedVariables false
open Go
variable {F : Fr} {P : Program} {Γ : List (Nat × List AV)}
def aMapUpd (P : Program) (σ : List AO) (T : TypeId) (m k v : AV) : Option (List AO) :=
  match P.underlying T, m, k with
  | some (.map kt _), .mapo o, .val kv => match σ[o]?, P.underlying kt with
    | some (.map ks vs), some d => if plainK d = true then match aFindK d kv ks 0 with
      | some (some i) => if i < vs.length then some (σ.set o (.map ks (vs.set i v))) else none
      | some none => some (σ.set o (.map (ks ++ [kv]) (vs ++ [v])))
      | none => none
      else none
    | _, _ => none
  | _, _, _ => none
theorem aMapUpd_ok {C : Ctx} (hS : RelS C) {T : TypeId} {m k v : AV} {x y z : Value} {σ' : List AO} (hm : RelV C m x) (hk : RelV C k y) (hv : RelV C v z) (h : aMapUpd P C.σ T m k v = some σ') :
    ∃ D : Ctx, (Instr.mapUpdate T x y z).run P C.w = .ok () D.w ∧ D.σ = σ' ∧ Ext C D ∧ RelS D := by
  unfold aMapUpd at h
  split at h <;> try (simp at h; done)
  rename_i kt et o kv hT
  split at h <;> try (simp at h; done)
  rename_i ks vs d ho hd
  split at h <;> try (simp at h; done)
  rename_i hpl
  obtain rfl : y = kv := hk
  obtain ⟨_, rfl⟩ := hm
  obtain ⟨es, clock, h1, ⟨h2, h2c, h2b⟩, h3⟩ := hS.map o ks vs ho
  have hck := checkKey_plain (P := P) hd hpl false 9999 y C.w
  split at h <;> try (simp at h; done)
  · rename_i i hf
    split at h <;> try (simp at h; done)
    rename_i hi
    cases h
    rw [← h2] at hf
    obtain ⟨_, e, g1, g0, g2⟩ := findNow_eq _ _ hf
    rw [Nat.sub_zero] at g1
    have g1' : es[i]? = some e := by simpa using g1
    have hfk := findKey_run (P := P) hd g2 C.w
    obtain ⟨heq, hsb⟩ := sameNow_eq g0
    have hks : (Instr.keyThatStays e.key y).run P C.w = .ok y C.w := by simp [Instr.keyThatStays, hsb]
    have hml : (es.modify i fun e => { e with key := y, val := z }).toList = es.toList.set i { e with key := y, val := z } := by
      apply List.ext_getElem?
      intro j
      simp only [Array.getElem?_toList, Array.getElem?_modify, List.getElem?_set]
      split
      · rename_i hij
        subst hij
        obtain ⟨this, he⟩ := Array.getElem?_eq_some_iff.1 g1'
        simp [this, he]
      · simp
    have hkd : Keyed (es.modify i fun e => { e with key := y, val := z }) clock ks := by
      refine ⟨?_, by rw [h2c]; simp, fun j e' he' => ?_⟩
      · rw [hml, ← h2, List.map_set]
        refine set_self ?_
        rw [List.getElem?_map, g1]
        simp [heq]
      · rw [Array.getElem?_modify] at he'
        split at he'
        · rename_i hij
          subst hij
          rw [g1'] at he'
          cases he'
          exact h2b i e g1'
        · exact h2b j e' he'
    have hrl : RelL C (vs.set i v) ((es.modify i fun e => { e with key := y, val := z }).toList.map (·.val)) := by
      rw [hml, List.map_set]
      exact relL_set h3 hv
    obtain ⟨p1, p2⟩ := put_map hS (ks := ks) (vs := vs.set i v) ho ⟨es, clock, h1⟩ hkd hrl
    refine ⟨C.put o (.map ks (vs.set i v)) (.map (es.modify i fun e => { e with key := y, val := z }) clock), ?_, rfl, p1, p2⟩
    simp only [Instr.mapUpdate, Sem.run_bind, run_underlying hT, Result.andThen_ok, getObj_at h1, hck, hfk, g1', Option.map_some, Option.getD_some, hks, setObj_at _ h1]
    rfl
  · rename_i hf
    cases h
    rw [← h2] at hf
    have g2 := findNow_eq _ _ hf
    have hfk := findKey_run (P := P) hd g2 C.w
    have hkd : Keyed (es.push { key := y, val := z, born := clock }) (clock + 1) (ks ++ [y]) := by
      refine ⟨by simp [h2], by simp [h2c], fun i e he => ?_⟩
      rw [Array.getElem?_push] at he
      split at he
      · rename_i hi
        cases he
        rw [h2c, hi]
      · exact h2b i e he
    have hrl : RelL C (vs ++ [v]) ((es.push { key := y, val := z, born := clock }).toList.map (·.val)) := by
      simp only [Array.toList_push, List.map_append, List.map_cons, List.map_nil]
      exact relL_append h3 ⟨hv, trivial⟩
    obtain ⟨p1, p2⟩ := put_map hS (ks := ks ++ [y]) (vs := vs ++ [v]) ho ⟨es, clock, h1⟩ hkd hrl
    refine ⟨C.put o (.map (ks ++ [y]) (vs ++ [v])) (.map (es.push { key := y, val := z, born := clock }) (clock + 1)), ?_, rfl, p1, p2⟩
    simp only [Instr.mapUpdate, Sem.run_bind, run_underlying hT, Result.andThen_ok, getObj_at h1, hck, hfk, setObj_at _ h1]
    rfl
/-- A map's entry is set, as a region's operation. -/
theorem AOps.mapu {ops : Array Oper} {rest : List Oper} {env : Env} {σ σ' : Sto} {K : Env → Sto → Prop} {T ty : TypeId} {m k v : Operand} {pos : String} {af : Array Edge} (hr : aMapUpd P σ T (opnd Γ env m) (opnd Γ env k) (opnd Γ env v) = some σ')
    (h : AOps F P Γ ops rest env σ' K) : AOps F P Γ ops (⟨none, .mapUpdate T m k v, ty, pos, af, none⟩ :: rest) env σ K := by
  intro C a Q hs hq
  unfold wpListIn
  rw [if_pos (by simp [Region.wanted])]
  refine ⟨fun f _ => fence_fn F f, ?_⟩
  obtain ⟨D, hrun, k1, k2, k3⟩ := aMapUpd_ok (P := P) hs.S (opnd_ok hs.G hs.L m) (opnd_ok hs.G hs.L k) (opnd_ok hs.G hs.L v) (by rw [hs.σ]; exact hr)
  have hx : (execOp a.eval ⟨none, .mapUpdate T m k v, ty, pos, af, none⟩).run P C.w = .ok .skip D.w := by simp [execOp, hrun]
  rw [Oper.semAt_eq _ _ _ (fun c e => by cases e), hx]
  have hs2 := hs.did k2 k3 (v := .any) (y := undef) trivial none
  exact h D a Q (by rw [k1] at hs2; exact hs2) (fun e a w hp => hq e a w (hp.trans k2))
/-- The place of a number in a list. -/
def findI : List Nat → Nat → Option Nat
  | [], _ => none
  | t :: l, s => if s = t then some 0 else (findI l s).map (· + 1)
def keyI (n : Nat) : Value := .int .i64 (n : Nat)
theorem sameNow_int {kk : IntKind} (s t : Nat) : Instr.sameNow (.int kk) (keyI s) (keyI t) = some (decide (s = t)) := by
  simp only [keyI, Instr.sameNow, if_true, Option.some.injEq]
  by_cases h : s = t
  · simp [h]
  · simp [h]
    omega
theorem aFindK_int {kk : IntKind} (s : Nat) : ∀ (l : List Nat) (i : Nat), aFindK (.int kk) (keyI s) (l.map keyI) i = some ((findI l s).map (· + i))
  | [], i => rfl
  | t :: l, i => by
    rw [List.map_cons, aFindK, sameNow_int, findI]
    by_cases h : s = t
    · simp [h]
    · simp only [h, decide_false, if_false]
      rw [aFindK_int s l (i + 1)]
      cases findI l s with
      | none => rfl
      | some j =>
        simp only [Option.map_some, Option.some.injEq]
        omega
theorem findI_lt : ∀ {l : List Nat} {s i : Nat}, findI l s = some i → i < l.length ∧ l[i]? = some s
  | [], _, _, h => by cases h
  | t :: l, s, i, h => by
    simp only [findI] at h
    split at h
    · rename_i e
      cases h
      exact ⟨by simp, by simp [e]⟩
    · obtain ⟨j, hj, rfl⟩ := Option.map_eq_some_iff.1 h
      obtain ⟨h1, h2⟩ := findI_lt hj
      exact ⟨by simp; omega, by simpa using h2⟩
/-- How many, by a map: keys, and numbers beside them. -/
def getI (ks vs : List Nat) (s : Nat) : Nat := match findI ks s with
  | some i => vs.getD i 0
  | none => 0
def insI (ks vs : List Nat) (s : Nat) : List Nat × List Nat := match findI ks s with
  | some i => (ks, vs.set i (vs.getD i 0 + 1))
  | none => (ks ++ [s], vs ++ [1])
theorem findI_app_none : ∀ {l : List Nat} {s t : Nat}, findI l s = none → findI (l ++ [s]) t = match findI l t with | some i => some i | none => if t = s then some l.length else none
  | [], s, t, _ => by simp [findI]
  | a :: l, s, t, h => by
    simp only [findI] at h
    split at h
    · cases h
    · have h' : findI l s = none := by simpa using h
      have ih := findI_app_none (t := t) h'
      simp only [List.cons_append, findI]
      by_cases ht : t = a
      · simp [ht]
      · simp only [ht, if_false, ih]
        cases findI l t with
        | some i => rfl
        | none => by_cases hts : t = s <;> simp [hts]
theorem findI_inj : ∀ {l : List Nat} {s t i : Nat}, findI l s = some i → findI l t = some i → s = t := fun h1 h2 => by
  have a := (findI_lt h1).2
  have b := (findI_lt h2).2
  rw [a] at b
  exact Option.some.inj b
theorem insI_len {ks vs : List Nat} (h : ks.length = vs.length) (s : Nat) : (insI ks vs s).1.length = (insI ks vs s).2.length := by
  unfold insI
  split <;> simp [h]
theorem getI_ins {ks vs : List Nat} (h : ks.length = vs.length) (s t : Nat) : getI (insI ks vs s).1 (insI ks vs s).2 t = getI ks vs t + if t = s then 1 else 0 := by
  unfold insI
  cases hs : findI ks s with
  | some i =>
    obtain ⟨hi, _⟩ := findI_lt hs
    simp only [getI]
    by_cases hts : t = s
    · subst hts
      rw [hs]
      simp [List.getD_eq_getElem?_getD, show i < vs.length by omega]
    · cases ht : findI ks t with
      | none => simp [hts]
      | some j =>
        have hij : i ≠ j := fun e => hts (findI_inj ht (e ▸ hs))
        simp [List.getD_eq_getElem?_getD, List.getElem?_set, hij, hts]
  | none =>
    simp only [getI]
    rw [findI_app_none hs]
    cases ht : findI ks t with
    | some j =>
      obtain ⟨hj, _⟩ := findI_lt ht
      have hts : t ≠ s := fun e => by rw [e, hs] at ht; cases ht
      simp [List.getD_eq_getElem?_getD, List.getElem?_append_left (show j < vs.length by omega), hts]
    | none =>
      by_cases hts : t = s
      · simp [hts, h, List.getD_eq_getElem?_getD]
      · simp [hts]
end Go.Proofs.Ev
