import Derived.Test.YtnfimclkiccdhaaDoorPtEvMapO
/-! Entries of maps that are set at once. -/
namespace Go.Proofs.Ev
set_option linter.unusedSimpArgs false
set_option linter.unusedVariables false
open Go
variable {P : Program}
def aMapUpd (P : Program) (σ : List AO) (T : TypeId) (m k v : AV) : Option (List AO) :=
  match P.underlying T, m, k with
  | some (.map kt _), .mapo o, .val kv => match σ[o]?, P.underlying kt with
    | some (.map ks vs), some d => if plainK d = true then match aFindK d kv ks 0 with
      | some (some i) => if i < vs.length then some (σ.set o (.map ks (vs.set i v))) else none
      | some none => some (σ.set o (.map (ks ++ [kv]) (vs ++ [v])))
      | none => none
      else none
    | _, _ => none
  | some (.map kt _), .mapo o, .agg as => match σ[o]?, aInts as with
    | some (.map ks vs), some q => if aggK P kt q.length = true then match aFindA q ks 0 with
      | some (some i) => if i < vs.length then some (σ.set o (.map ks (vs.set i v))) else none
      | some none => some (σ.set o (.map (ks ++ [kV q]) (vs ++ [v])))
      | none => none
      else none
    | _, _ => none
  | _, _, _ => none
theorem mapUpd_found {C : Ctx} (hS : RelS C) {T kt et : TypeId} {o : Nat} {ks : List Value} {vs : List AV} {v : AV} {y z : Value} {es : Array MapEntry} {clock : Nat} (hT : P.underlying T = some (.map kt et)) (ho : C.σ[o]? = some (.map ks vs)) (h1 : C.w.heap[C.φ o]? = some (.map es clock)) (h2 : es.toList.map (·.key) = ks) (h2c : clock = es.size) (h2b : ∀ (i : Nat) (e : MapEntry), es[i]? = some e → e.born = i) (h3 : RelL C vs (es.toList.map (·.val))) (hv : RelV C v z)
    (hck : (Instr.checkKey false 10000 kt y).run P C.w = .ok () C.w) {i : Nat} {e : MapEntry} (g1' : es[i]? = some e) (heq : e.key = y) (hks : (Instr.keyThatStays e.key y).run P C.w = .ok y C.w) (hfk : (Instr.findKey kt y es.toList).run P C.w = .ok (some (i, e.val)) C.w) :
    ∃ D : Ctx, (Instr.mapUpdate T (.map (some (C.φ o))) y z).run P C.w = .ok () D.w ∧ D.σ = C.σ.set o (.map ks (vs.set i v)) ∧ Ext C D ∧ RelS D := by
  have g1 : es.toList[i]? = some e := by simpa using g1'
  have hml : (es.modify i fun e => { e with key := y, val := z }).toList = es.toList.set i { e with key := y, val := z } := by
    apply List.ext_getElem?
    intro j
    simp only [Array.getElem?_toList, Array.getElem?_modify, List.getElem?_set]
    split
    · rename_i hij
      subst hij
      obtain ⟨this, he⟩ := Array.getElem?_eq_some_iff.1 g1'
      simp [this, he]
    · simp
  have hkd : Keyed (es.modify i fun e => { e with key := y, val := z }) clock ks := by
    refine ⟨?_, by rw [h2c]; simp, fun j e' he' => ?_⟩
    · rw [hml, ← h2, List.map_set]
      refine set_self ?_
      rw [List.getElem?_map, g1]
      simp [heq]
    · rw [Array.getElem?_modify] at he'
      split at he'
      · rename_i hij
        subst hij
        rw [g1'] at he'
        cases he'
        exact h2b i e g1'
      · exact h2b j e' he'
  have hrl : RelL C (vs.set i v) ((es.modify i fun e => { e with key := y, val := z }).toList.map (·.val)) := by
    rw [hml, List.map_set]
    exact relL_set h3 hv
  obtain ⟨p1, p2⟩ := put_map hS (ks := ks) (vs := vs.set i v) ho ⟨es, clock, h1⟩ hkd hrl
  refine ⟨C.put o (.map ks (vs.set i v)) (.map (es.modify i fun e => { e with key := y, val := z }) clock), ?_, rfl, p1, p2⟩
  simp only [Instr.mapUpdate, Sem.run_bind, run_underlying hT, Result.andThen_ok, getObj_at h1, hck, hfk, g1', Option.map_some, Option.getD_some, hks, setObj_at _ h1]
  rfl
theorem mapUpd_new {C : Ctx} (hS : RelS C) {T kt et : TypeId} {o : Nat} {ks : List Value} {vs : List AV} {v : AV} {y z : Value} {es : Array MapEntry} {clock : Nat} (hT : P.underlying T = some (.map kt et)) (ho : C.σ[o]? = some (.map ks vs)) (h1 : C.w.heap[C.φ o]? = some (.map es clock)) (h2 : es.toList.map (·.key) = ks) (h2c : clock = es.size) (h2b : ∀ (i : Nat) (e : MapEntry), es[i]? = some e → e.born = i) (h3 : RelL C vs (es.toList.map (·.val))) (hv : RelV C v z)
    (hck : (Instr.checkKey false 10000 kt y).run P C.w = .ok () C.w) (hfk : (Instr.findKey kt y es.toList).run P C.w = .ok none C.w) :
    ∃ D : Ctx, (Instr.mapUpdate T (.map (some (C.φ o))) y z).run P C.w = .ok () D.w ∧ D.σ = C.σ.set o (.map (ks ++ [y]) (vs ++ [v])) ∧ Ext C D ∧ RelS D := by
  have hkd : Keyed (es.push { key := y, val := z, born := clock }) (clock + 1) (ks ++ [y]) := by
    refine ⟨by simp [h2], by simp [h2c], fun i e he => ?_⟩
    rw [Array.getElem?_push] at he
    split at he
    · rename_i hi
      cases he
      rw [h2c, hi]
    · exact h2b i e he
  have hrl : RelL C (vs ++ [v]) ((es.push { key := y, val := z, born := clock }).toList.map (·.val)) := by
    simp only [Array.toList_push, List.map_append, List.map_cons, List.map_nil]
    exact relL_append h3 ⟨hv, trivial⟩
  obtain ⟨p1, p2⟩ := put_map hS (ks := ks ++ [y]) (vs := vs ++ [v]) ho ⟨es, clock, h1⟩ hkd hrl
  refine ⟨C.put o (.map (ks ++ [y]) (vs ++ [v])) (.map (es.push { key := y, val := z, born := clock }) (clock + 1)), ?_, rfl, p1, p2⟩
  simp only [Instr.mapUpdate, Sem.run_bind, run_underlying hT, Result.andThen_ok, getObj_at h1, hck, hfk, setObj_at _ h1]
  rfl
theorem aMapUpd_ok {C : Ctx} (hS : RelS C) {T : TypeId} {m k v : AV} {x y z : Value} {σ' : List AO} (hm : RelV C m x) (hk : RelV C k y) (hv : RelV C v z) (h : aMapUpd P C.σ T m k v = some σ') :
    ∃ D : Ctx, (Instr.mapUpdate T x y z).run P C.w = .ok () D.w ∧ D.σ = σ' ∧ Ext C D ∧ RelS D := by
  unfold aMapUpd at h
  split at h <;> try (simp at h; done)
  · rename_i kt et o kv hT
    split at h <;> try (simp at h; done)
    rename_i ks vs d ho hd
    split at h <;> try (simp at h; done)
    rename_i hpl
    obtain rfl : y = kv := hk
    obtain ⟨_, rfl⟩ := hm
    obtain ⟨es, clock, h1, ⟨h2, h2c, h2b⟩, h3⟩ := hS.map o ks vs ho
    have hck : (Instr.checkKey false 10000 kt y).run P C.w = .ok () C.w := checkKey_plain (P := P) hd hpl false 9999 y C.w
    split at h <;> try (simp at h; done)
    · rename_i i hf
      split at h <;> try (simp at h; done)
      cases h
      rw [← h2] at hf
      obtain ⟨_, e, g1, g0, g2⟩ := findNow_eq _ _ hf
      rw [Nat.sub_zero] at g1
      have g1' : es[i]? = some e := by simpa using g1
      obtain ⟨heq, hsb⟩ := sameNow_eq g0
      exact mapUpd_found hS hT ho h1 h2 h2c h2b h3 hv hck g1' heq.symm (by simp [Instr.keyThatStays, hsb]) (findKey_run (P := P) hd g2 C.w)
    · rename_i hf
      cases h
      rw [← h2] at hf
      exact mapUpd_new hS hT ho h1 h2 h2c h2b h3 hv hck (findKey_run (P := P) hd (findNow_eq _ _ hf) C.w)
  · rename_i kt et o as hT
    split at h <;> try (simp at h; done)
    rename_i ks vs q ho hq
    split at h <;> try (simp at h; done)
    rename_i hpl
    obtain rfl := agg_rel hq hk
    obtain ⟨_, rfl⟩ := hm
    obtain ⟨es, clock, h1, ⟨h2, h2c, h2b⟩, h3⟩ := hS.map o ks vs ho
    have hck := check_key (P := P) C.w false hpl
    split at h <;> try (simp at h; done)
    · rename_i i hf
      split at h <;> try (simp at h; done)
      cases h
      rw [← h2] at hf
      obtain ⟨e, g1, g0, g2⟩ := findKey_agg (P := P) C.w hpl _ hf
      exact mapUpd_found hS hT ho h1 h2 h2c h2b h3 hv hck (by simpa using g1) g0 (by rw [g0]; exact stays_key C.w q) g2
    · rename_i hf
      cases h
      rw [← h2] at hf
      exact mapUpd_new hS hT ho h1 h2 h2c h2b h3 hv hck (findKey_agg (P := P) C.w hpl _ hf)
end Go.Proofs.Ev

