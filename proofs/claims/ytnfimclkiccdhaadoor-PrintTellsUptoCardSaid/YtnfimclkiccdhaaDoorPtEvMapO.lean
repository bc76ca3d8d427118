import Derived.Test.YtnfimclkiccdhaaDoorPtEvKey
import Derived.MapKept
/-! Maps that live: made, looked up, entered. -/
namespace Go.Proofs.Ev
set_option linter.unusedSimpArgs false
set_option linter.unusedVariables false
open Go
variable {P : Program}

def aZero (P : Program) (T : TypeId) : Option AV := match P.info? T with
  | some i => i.zero.map ofConst
  | none => none
theorem aZero_ok {C : Ctx} {T : TypeId} {z : AV} (h : aZero P T = some z) : ∃ y, (zeroValue T).run P C.w = .ok y C.w ∧ RelV C z y := by
  unfold aZero at h
  split at h <;> try (simp at h; done)
  rename_i i hi
  obtain ⟨zz, hzz, rfl⟩ := Option.map_eq_some_iff.1 h
  exact ⟨zz, by simp [zeroValue, typeInfo, hi, hzz], ofConst_ok C zz⟩
theorem getObj_at {w : World} {r : Nat} {es : Array MapEntry} {c : Nat} (h : w.heap[r]? = some (.map es c)) : (getObj r).run P w = .ok (.map es c) w := by simp [getObj, Sem.run, h]
theorem setObj_at {w : World} {r : Nat} {es : Array MapEntry} {c : Nat} (o' : Obj) (h : w.heap[r]? = some (.map es c)) : (setObj r o').run P w = .ok () (setBlk w r o') := by simp [setObj, Sem.run, h, setBlk]
def plainK : TypeDesc → Bool
  | .int _ | .string | .bool => true
  | _ => false
theorem checkKey_plain {kt : TypeId} {d : TypeDesc} (h : P.underlying kt = some d) (hp : plainK d = true) (e : Bool) (n : Nat) (v : Value) (w : World) : (Instr.checkKey e (n + 1) kt v).run P w = .ok () w := by
  cases d <;> simp [plainK] at hp <;> simp [Instr.checkKey, run_underlying h]
/-- The first key that is the same. -/
def aFindK (d : TypeDesc) (k : Value) : List Value → Nat → Option (Option Nat)
  | [], _ => some none
  | k' :: ks, i => match Instr.sameNow d k k' with
    | some true => some (some i)
    | some false => aFindK d k ks (i + 1)
    | none => none
theorem findNow_eq {d : TypeDesc} {k : Value} : ∀ (es : List MapEntry) (i : Nat) {r : Option Nat}, aFindK d k (es.map (·.key)) i = some r →
    match r with
    | none => Instr.findNow d k es i = some none
    | some j => i ≤ j ∧ ∃ e, es[j - i]? = some e ∧ Instr.sameNow d k e.key = some true ∧ Instr.findNow d k es i = some (some (j, e.val))
  | [], i, r, h => by
    simp only [List.map_nil, aFindK, Option.some.injEq] at h
    subst h
    rfl
  | e :: es, i, r, h => by
    simp only [List.map_cons, aFindK] at h
    split at h
    · rename_i hs
      cases h
      exact ⟨Nat.le_refl _, e, by simp, hs, by simp [Instr.findNow, hs]⟩
    · rename_i hs
      have := findNow_eq es (i + 1) h
      cases r with
      | none => simpa [Instr.findNow, hs] using this
      | some j =>
        obtain ⟨h1, e', h2, h3, h4⟩ := this
        refine ⟨by omega, e', ?_, h3, by simpa [Instr.findNow, hs] using h4⟩
        rw [show j - i = (j - (i + 1)) + 1 by omega]
        simpa using h2
    · cases h
theorem findKey_run {kt : TypeId} {d : TypeDesc} (hu : P.underlying kt = some d) {k : Value} {es : List MapEntry} {q : Option (Nat × Value)} (h : Instr.findNow d k es 0 = some q) (w : World) : (Instr.findKey kt k es).run P w = .ok q w := by
  simp [Instr.findKey, run_underlying hu, h]
/-- What a map has. -/
def mapParts (σ : List AO) : AV → Option (List Value × List AV)
  | .mapo o => match σ[o]? with
    | some (.map ks vs) => some (ks, vs)
    | _ => none
  | .mapf ks vs => some (ks, vs)
  | .val (.map none) => some ([], [])
  | _ => none
def aLookup (P : Program) (σ : List AO) (T : TypeId) (ok : Bool) (m k : AV) : Option AV :=
  match P.underlying T, k, mapParts σ m with
  | some (.map kt et), .val kv, some (ks, vs) => match P.underlying kt with
    | some d => if plainK d = true then match aFindK d kv ks 0 with
      | some (some i) => (vs[i]?).map fun v => if ok then .tup [v, .val (.bool true)] else v
      | some none => (aZero P et).map fun z => if ok then .tup [z, .val (.bool false)] else z
      | none => none
      else none
    | none => none
  | some (.map kt et), .agg as, some (ks, vs) => match aInts as with
    | some q => if aggK P kt q.length = true then match aFindA q ks 0 with
      | some (some i) => (vs[i]?).map fun v => if ok then .tup [v, .val (.bool true)] else v
      | some none => (aZero P et).map fun z => if ok then .tup [z, .val (.bool false)] else z
      | none => none
      else none
    | none => none
  | _, _, _ => none
theorem mapParts_ok {C : Ctx} (hS : RelS C) {m : AV} {x : Value} {ks : List Value} {vs : List AV} (hm : RelV C m x) (h : mapParts C.σ m = some (ks, vs)) :
    ∃ es : Array MapEntry, es.toList.map (·.key) = ks ∧ RelL C vs (es.toList.map (·.val)) ∧ ((x = .map none ∧ es = #[]) ∨ ∃ b clock, x = .map (some b) ∧ C.w.heap[b]? = some (.map es clock)) := by
  unfold mapParts at h
  split at h <;> try (simp at h; done)
  · rename_i o
    split at h <;> try (simp at h; done)
    rename_i ks' vs' ho
    cases h
    obtain ⟨_, rfl⟩ := hm
    obtain ⟨es, clock, h1, h2, h3⟩ := hS.map o _ _ ho
    exact ⟨es, h2.1, h3, .inr ⟨_, clock, rfl, h1⟩⟩
  · cases h
    obtain ⟨b, es, clock, rfl, _, h1, h2, h3⟩ := hm
    exact ⟨es, h2, h3, .inr ⟨b, clock, rfl, h1⟩⟩
  · cases h
    cases hm
    exact ⟨#[], rfl, trivial, .inl ⟨rfl, rfl⟩⟩
theorem lookup_run {w : World} {T kt et : TypeId} {ok : Bool} {x y : Value} {es : Array MapEntry} (hT : P.underlying T = some (.map kt et)) (h3 : (x = .map none ∧ es = #[]) ∨ ∃ b clock, x = .map (some b) ∧ w.heap[b]? = some (.map es clock))
    (hck : (Instr.checkKey es.isEmpty 10000 kt y).run P w = .ok () w) (q : Option (Nat × Value)) (z : Value) (hfk : (Instr.findKey kt y es.toList).run P w = .ok q w)
    (hz : (match q with | some (_, v) => pure (v, true) | none => do pure (← zeroValue et, false) : Sem (Value × Bool)).run P w = .ok (z, q.isSome) w) :
    (Instr.lookup T x y ok).run P w = .ok (if ok then .tuple #[z, .bool q.isSome] else z) w := by
  rcases h3 with ⟨rfl, rfl⟩ | ⟨b, clock, rfl, hb⟩
  · simp only [Instr.lookup, Sem.run_bind, run_underlying hT, Result.andThen_ok, Sem.run_pure, hck, hfk]
    cases q with
    | none =>
      simp only [Sem.run_bind, Sem.run_pure] at hz ⊢
      cases hzz : (zeroValue et).run P w with
      | halt _ _ => rw [hzz] at hz; cases hz
      | ok u w' =>
        rw [hzz] at hz
        simp only [Result.andThen_ok, Result.ok.injEq, Prod.mk.injEq] at hz ⊢
        obtain ⟨⟨rfl, _⟩, rfl⟩ := hz
        exact ⟨rfl, rfl⟩
    | some r =>
      obtain ⟨j, u⟩ := r
      simp only [Sem.run_pure, Result.ok.injEq, Prod.mk.injEq] at hz
      obtain ⟨⟨rfl, _⟩, _⟩ := hz
      simp only [Sem.run_bind, Sem.run_pure, Result.andThen_ok]
      rfl
  · simp only [Instr.lookup, Sem.run_bind, run_underlying hT, Result.andThen_ok, Sem.run_pure, getObj_at hb, hck, hfk]
    cases q with
    | none =>
      simp only [Sem.run_bind, Sem.run_pure] at hz ⊢
      cases hzz : (zeroValue et).run P w with
      | halt _ _ => rw [hzz] at hz; cases hz
      | ok u w' =>
        rw [hzz] at hz
        simp only [Result.andThen_ok, Result.ok.injEq, Prod.mk.injEq] at hz ⊢
        obtain ⟨⟨rfl, _⟩, rfl⟩ := hz
        exact ⟨rfl, rfl⟩
    | some r =>
      obtain ⟨j, u⟩ := r
      simp only [Sem.run_pure, Result.ok.injEq, Prod.mk.injEq] at hz
      obtain ⟨⟨rfl, _⟩, _⟩ := hz
      simp only [Sem.run_bind, Sem.run_pure, Result.andThen_ok]
      rfl
theorem aLookup_ok {C : Ctx} (hS : RelS C) {T : TypeId} {ok : Bool} {m k v : AV} {x y : Value} (hm : RelV C m x) (hk : RelV C k y) (h : aLookup P C.σ T ok m k = some v) : ∃ z, (Instr.lookup T x y ok).run P C.w = .ok z C.w ∧ RelV C v z := by
  unfold aLookup at h
  split at h <;> try (simp at h; done)
  · rename_i kt et kv ks vs hT hp
    split at h <;> try (simp at h; done)
    rename_i d hd
    split at h <;> try (simp at h; done)
    rename_i hpl
    obtain rfl : y = kv := hk
    obtain ⟨es, h1, h2, h3⟩ := mapParts_ok hS hm hp
    have hck : (Instr.checkKey es.isEmpty 10000 kt y).run P C.w = .ok () C.w := checkKey_plain (P := P) hd hpl es.isEmpty 9999 y C.w
    split at h <;> try (simp at h; done)
    · rename_i i hf
      obtain ⟨u, hu, rfl⟩ := Option.map_eq_some_iff.1 h
      rw [← h1] at hf
      obtain ⟨_, e, g1, _, g2⟩ := findNow_eq _ _ hf
      obtain ⟨z, hz1, hz2⟩ := relL_get h2 hu
      have hz : z = e.val := by
        rw [List.getElem?_map] at hz1
        rw [Nat.sub_zero] at g1
        rw [g1] at hz1
        exact (Option.some.inj hz1).symm
      subst hz
      refine ⟨_, lookup_run hT h3 hck _ e.val (findKey_run (P := P) hd g2 C.w) rfl, ?_⟩
      cases ok
      · exact hz2
      · exact ⟨[e.val, .bool true], rfl, hz2, rfl, trivial⟩
    · rename_i hf
      obtain ⟨u, hu, rfl⟩ := Option.map_eq_some_iff.1 h
      rw [← h1] at hf
      have g2 := findNow_eq _ _ hf
      obtain ⟨z, hz1, hz2⟩ := aZero_ok (C := C) hu
      refine ⟨_, lookup_run hT h3 hck _ z (findKey_run (P := P) hd g2 C.w) (by simp [hz1]), ?_⟩
      cases ok
      · exact hz2
      · exact ⟨[z, .bool false], rfl, hz2, rfl, trivial⟩
  · rename_i kt et as ks vs hT hp
    split at h <;> try (simp at h; done)
    rename_i q hq
    split at h <;> try (simp at h; done)
    rename_i hpl
    obtain rfl := agg_rel hq hk
    obtain ⟨es, h1, h2, h3⟩ := mapParts_ok hS hm hp
    have hck := check_key (P := P) C.w es.isEmpty hpl
    split at h <;> try (simp at h; done)
    · rename_i i hf
      obtain ⟨u, hu, rfl⟩ := Option.map_eq_some_iff.1 h
      rw [← h1] at hf
      obtain ⟨e, g1, _, g2⟩ := findKey_agg (P := P) C.w hpl _ hf
      obtain ⟨z, hz1, hz2⟩ := relL_get h2 hu
      have hz : z = e.val := by
        rw [List.getElem?_map] at hz1
        rw [g1] at hz1
        exact (Option.some.inj hz1).symm
      subst hz
      refine ⟨_, lookup_run hT h3 hck _ e.val g2 rfl, ?_⟩
      cases ok
      · exact hz2
      · exact ⟨[e.val, .bool true], rfl, hz2, rfl, trivial⟩
    · rename_i hf
      obtain ⟨u, hu, rfl⟩ := Option.map_eq_some_iff.1 h
      rw [← h1] at hf
      have g2 := findKey_agg (P := P) C.w hpl _ hf
      obtain ⟨z, hz1, hz2⟩ := aZero_ok (C := C) hu
      refine ⟨_, lookup_run hT h3 hck _ z g2 (by simp [hz1]), ?_⟩
      cases ok
      · exact hz2
      · exact ⟨[z, .bool false], rfl, hz2, rfl, trivial⟩
def aMakeMap (σ : List AO) : Option (AV × List AO) := some (.mapo σ.length, σ ++ [.map [] []])
theorem aMakeMap_ok {C : Ctx} (hS : RelS C) {T : TypeId} {v : AV} {σ' : List AO} (h : aMakeMap C.σ = some (v, σ')) : ∃ (y : Value) (D : Ctx), (Instr.makeMap T none).run P C.w = .ok y D.w ∧ D.σ = σ' ∧ Ext C D ∧ RelS D ∧ RelV D v y := by
  cases h
  have hk : Keyed #[] 0 [] := ⟨rfl, rfl, fun i e h => by simp at h⟩
  refine ⟨.map (some C.w.heap.size), C.new (.map [] []) (.map #[] 0), by simp [Instr.makeMap, Ctx.new], rfl, new_ext hS _ _, new_map hS 0 hk trivial, ⟨⟨.map [] [], by simp [Ctx.new], rfl⟩, ?_⟩⟩
  rw [new_φ_at]
def aMapEntry (P : Program) (σ : List AO) (T : TypeId) (m k : AV) : Option (AV × List AO) :=
  match P.underlying T, m, k with
  | some (.map kt et), .mapo o, .val kv => match σ[o]?, P.underlying kt with
    | some (.map ks vs), some d => if plainK d = true then match aFindK d kv ks 0 with
      | some (some i) => (vs[i]?).map fun v => (.tup [v, .val (.int .i64 i)], σ)
      | some none => (aZero P et).map fun z => (.tup [z, .val (.int .i64 ks.length)], σ.set o (.map (ks ++ [kv]) (vs ++ [z])))
      | none => none
      else none
    | _, _ => none
  | _, _, _ => none
theorem sameNow_eq {d : TypeDesc} {a b : Value} (h : Instr.sameNow d a b = some true) : a = b ∧ ∀ n, Instr.sameBits n b a = true := by
  unfold Instr.sameNow at h
  split at h <;> try (simp at h; done)
  · split at h <;> try (simp at h; done)
    rename_i k a k' b hk
    simp only [Option.some.injEq, beq_iff_eq] at h
    subst hk h
    exact ⟨rfl, fun n => by cases n <;> simp [Instr.sameBits]⟩
  · rename_i a b
    simp only [Option.some.injEq] at h
    have : a = b := by
      obtain ⟨x⟩ := a
      obtain ⟨y⟩ := b
      have h : (x == y) = true := h
      simp at h
      rw [h]
    subst this
    refine ⟨rfl, fun n => ?_⟩
    cases n <;> simp only [Instr.sameBits] <;> exact h
  · simp only [Option.some.injEq, beq_iff_eq] at h
    subst h
    exact ⟨rfl, fun n => by cases n <;> simp [Instr.sameBits]⟩
theorem modify_same {es : Array MapEntry} {i : Nat} {f : MapEntry → MapEntry} (h : ∀ e, es[i]? = some e → f e = e) : es.modify i f = es := by
  apply Array.ext_getElem?
  intro j
  rw [Array.getElem?_modify]
  split
  · rename_i e
    subst e
    cases he : es[i]? with
    | none => rfl
    | some e => simp [h e he]
  · rfl
theorem set_self {α : Type} {l : List α} {i : Nat} {a : α} (h : l[i]? = some a) : l.set i a = l := by
  refine List.ext_getElem? fun j => ?_
  rw [List.getElem?_set]
  split
  · rename_i e
    subst e
    rw [h, if_pos (List.getElem?_eq_some_iff.1 h).1]
  · rfl
theorem aMapEntry_ok {C : Ctx} (hS : RelS C) {T : TypeId} {m k v : AV} {x y : Value} {σ' : List AO} (hm : RelV C m x) (hk : RelV C k y) (h : aMapEntry P C.σ T m k = some (v, σ')) :
    ∃ (z : Value) (D : Ctx), (Instr.mapEntry T x y).run P C.w = .ok z D.w ∧ D.σ = σ' ∧ Ext C D ∧ RelS D ∧ RelV D v z := by
  unfold aMapEntry at h
  split at h <;> try (simp at h; done)
  rename_i kt et o kv hT
  split at h <;> try (simp at h; done)
  rename_i ks vs d ho hd
  split at h <;> try (simp at h; done)
  rename_i hpl
  obtain rfl : y = kv := hk
  obtain ⟨_, rfl⟩ := hm
  obtain ⟨es, clock, h1, ⟨h2, h2c, h2b⟩, h3⟩ := hS.map o ks vs ho
  have hck := checkKey_plain (P := P) hd hpl false 9999 y C.w
  have hlen : es.size = ks.length := by rw [← h2]; simp
  split at h <;> try (simp at h; done)
  · rename_i i hf
    obtain ⟨u, hu, e⟩ := Option.map_eq_some_iff.1 h
    cases e
    rw [← h2] at hf
    obtain ⟨_, e, g1, g0, g2⟩ := findNow_eq _ _ hf
    rw [Nat.sub_zero] at g1
    have g1' : es[i]? = some e := by simpa using g1
    have hfk := findKey_run (P := P) hd g2 C.w
    obtain ⟨z, hz1, hz2⟩ := relL_get h3 hu
    have hz : z = e.val := by
      rw [List.getElem?_map, g1] at hz1
      exact (Option.some.inj hz1).symm
    subst hz
    obtain ⟨heq, hsb⟩ := sameNow_eq g0
    have hks : (Instr.keyThatStays e.key y).run P C.w = .ok y C.w := by simp [Instr.keyThatStays, hsb]
    have hmod : es.modify i (fun e => { e with key := y }) = es := modify_same fun e' he' => by
      rw [g1'] at he'
      cases he'
      rw [heq]
    obtain ⟨p1, p2⟩ := put_map hS (ks := ks) (vs := vs) (es := es) (clock := clock) ho ⟨es, clock, h1⟩ ⟨h2, h2c, h2b⟩ h3
    refine ⟨.tuple #[e.val, .int .i64 i], C.put o (.map ks vs) (.map es clock), ?_, ?_, p1, p2, ⟨[e.val, .int .i64 i], rfl, RelV.mono p1 hz2, rfl, trivial⟩⟩
    · simp only [Instr.mapEntry, Sem.run_bind, run_underlying hT, Result.andThen_ok, getObj_at h1, hck, hfk, g1', Option.map_some, Option.getD_some, hks, hmod, setObj_at _ h1, Sem.run_pure, h2b i e g1']
      rfl
    · show C.σ.set o (.map ks vs) = C.σ
      exact set_self ho
  · rename_i hf
    obtain ⟨u, hu, e⟩ := Option.map_eq_some_iff.1 h
    cases e
    rw [← h2] at hf
    have g2 := findNow_eq _ _ hf
    have hfk := findKey_run (P := P) hd g2 C.w
    obtain ⟨z, hz1, hz2⟩ := aZero_ok (C := C) hu
    have hkd : Keyed (es.push { key := y, val := z, born := clock }) (clock + 1) (ks ++ [y]) := by
      refine ⟨by simp [h2], by simp [h2c], fun i e he => ?_⟩
      rw [Array.getElem?_push] at he
      split at he
      · rename_i hi
        cases he
        rw [h2c, hi]
      · exact h2b i e he
    have hrl : RelL C (vs ++ [u]) ((es.push { key := y, val := z, born := clock }).toList.map (·.val)) := by
      simp only [Array.toList_push, List.map_append, List.map_cons, List.map_nil]
      exact relL_append h3 ⟨hz2, trivial⟩
    obtain ⟨p1, p2⟩ := put_map hS (ks := ks ++ [y]) (vs := vs ++ [u]) ho ⟨es, clock, h1⟩ hkd hrl
    refine ⟨.tuple #[z, .int .i64 clock], C.put o (.map (ks ++ [y]) (vs ++ [u])) (.map (es.push { key := y, val := z, born := clock }) (clock + 1)), ?_, rfl, p1, p2, ⟨[z, .int .i64 clock], rfl, RelV.mono p1 hz2, ?_, trivial⟩⟩
    · simp only [Instr.mapEntry, Sem.run_bind, run_underlying hT, Result.andThen_ok, getObj_at h1, hck, hfk, hz1, setObj_at _ h1, Sem.run_pure]
      rfl
    · show _ = _
      rw [h2c, hlen]
def aEntryStore (σ : List AO) (m s v : AV) : Option (List AO) :=
  match m, s with
  | .mapo o, .val (.int _ n) => match σ[o]? with
    | some (.map ks vs) => if 0 ≤ n ∧ n < vs.length then some (σ.set o (.map ks (vs.set n.toNat v))) else none
    | _ => none
  | _, _ => none
theorem findIdx_born {es : Array MapEntry} (hb : ∀ (i : Nat) (e : MapEntry), es[i]? = some e → e.born = i) {n : Nat} (hn : n < es.size) : es.findIdx? (fun e => (e.born : Int) == (n : Int)) = some n := by
  rw [Array.findIdx?_eq_some_iff_getElem]
  refine ⟨hn, ?_, fun j hj => ?_⟩
  · have := hb n es[n] (by simp [hn])
    simp [this]
  · have hj' : j < es.size := by omega
    have := hb j es[j] (by simp [hj'])
    simp [this]
    omega
theorem aEntryStore_ok {C : Ctx} (hS : RelS C) {T : TypeId} {m s v : AV} {x y z : Value} {σ' : List AO} (hm : RelV C m x) (hs : RelV C s y) (hv : RelV C v z) (h : aEntryStore C.σ m s v = some σ') :
    ∃ D : Ctx, (Instr.entryStore T x y z).run P C.w = .ok () D.w ∧ D.σ = σ' ∧ Ext C D ∧ RelS D := by
  unfold aEntryStore at h
  split at h <;> try (simp at h; done)
  rename_i o k n
  split at h <;> try (simp at h; done)
  rename_i ks vs ho
  split at h <;> try (simp at h; done)
  rename_i hc
  cases h
  cases hs
  obtain ⟨_, rfl⟩ := hm
  obtain ⟨j, rfl⟩ := Int.eq_ofNat_of_zero_le hc.1
  obtain ⟨es, clock, h1, ⟨h2, h2c, h2b⟩, h3⟩ := hS.map o ks vs ho
  have hvl : vs.length = es.size := by rw [relL_length h3]; simp
  have hj : j < es.size := by omega
  have hfi := findIdx_born h2b hj
  have hkd : Keyed (es.modify j fun e => { e with val := z }) clock ks := by
    refine ⟨?_, by simp [h2c], fun i e he => ?_⟩
    · rw [← h2]
      apply List.ext_getElem?
      intro i
      simp only [List.getElem?_map, Array.getElem?_toList, Array.getElem?_modify]
      split
      · cases es[i]? <;> rfl
      · rfl
    · rw [Array.getElem?_modify] at he
      split at he
      · obtain ⟨e', he', rfl⟩ := Option.map_eq_some_iff.1 he
        exact h2b i e' he'
      · exact h2b i e he
  have hrl : RelL C (vs.set j v) ((es.modify j fun e => { e with val := z }).toList.map (·.val)) := by
    have := relL_set (i := j) h3 hv
    have e1 : (es.toList.map (·.val)).set j z = (es.modify j fun e => { e with val := z }).toList.map (·.val) := by
      apply List.ext_getElem?
      intro i
      simp only [List.getElem?_map, Array.getElem?_toList, Array.getElem?_modify, List.getElem?_set, List.length_map, Array.length_toList]
      split
      · rename_i e
        subst e
        simp [hj]
      · rfl
    rw [← e1]
    exact this
  obtain ⟨p1, p2⟩ := put_map hS (ks := ks) (vs := vs.set j v) ho ⟨es, clock, h1⟩ hkd hrl
  refine ⟨C.put o (.map ks (vs.set j v)) (.map (es.modify j fun e => { e with val := z }) clock), ?_, by simp [Ctx.put], p1, p2⟩
  simp only [Instr.entryStore, Sem.run_bind, getObj_at h1, Result.andThen_ok, asInt, asIntOf, hfi, setObj_at _ h1, Sem.run_pure]
  simp [hfi, setObj_at _ h1, Ctx.put, setBlk]
end Go.Proofs.Ev

