import Derived.Test.YtipakejbdpbedaaDoorLtEvF
import Derived.Test.YtipakejbdpbedaaDoorProg
/-! What is known of types. -/
namespace Go.Proofs.Tryd
set_option linter.unusedSimpArgs false
set_option linter.unusedVariables false
open Go Go.Proofs.Ev
theorem tO2 : tAgg prog 2 = some none := by kernel_rfl
theorem get2 (c : AV) (cs : List AV) : aGet prog 2 (c :: cs) = some c := by rw [aGet_one tO2]; rfl
theorem zero2 : aZero prog 2 = some (.val (.int .i64 0)) := by kernel_rfl
theorem alloc2 (σ : Sto) : aAlloc prog σ 2 = aNewVar σ (.val (.int .i64 0)) := alloc_eq (by kernel_rfl) σ
theorem sto2 (σ : Sto) (v p : AV) : aStore prog σ 2 v p = aStoreN σ 1 v p := aStore_eq (by kernel_rfl) σ v p
theorem tO3 : tAgg prog 3 = some none := by kernel_rfl
theorem get3 (c : AV) (cs : List AV) : aGet prog 3 (c :: cs) = some c := by rw [aGet_one tO3]; rfl
theorem zero3 : aZero prog 3 = some (.val (.int .i64 0)) := by kernel_rfl
theorem alloc3 (σ : Sto) : aAlloc prog σ 3 = aNewVar σ (.val (.int .i64 0)) := alloc_eq (by kernel_rfl) σ
theorem sto3 (σ : Sto) (v p : AV) : aStore prog σ 3 v p = aStoreN σ 1 v p := aStore_eq (by kernel_rfl) σ v p
theorem tO4 : tAgg prog 4 = some none := by kernel_rfl
theorem get4 (c : AV) (cs : List AV) : aGet prog 4 (c :: cs) = some c := by rw [aGet_one tO4]; rfl
theorem zero4 : aZero prog 4 = some (.val (.bool false)) := by kernel_rfl
theorem alloc4 (σ : Sto) : aAlloc prog σ 4 = aNewVar σ (.val (.bool false)) := alloc_eq (by kernel_rfl) σ
theorem sto4 (σ : Sto) (v p : AV) : aStore prog σ 4 v p = aStoreN σ 1 v p := aStore_eq (by kernel_rfl) σ v p
theorem tyBool4 : tyBool prog 4 = true := by kernel_rfl
theorem tO5 : tAgg prog 5 = some none := by kernel_rfl
theorem get5 (c : AV) (cs : List AV) : aGet prog 5 (c :: cs) = some c := by rw [aGet_one tO5]; rfl
theorem zero5 : aZero prog 5 = some (.val (.int .u8 0)) := by kernel_rfl
theorem alloc5 (σ : Sto) : aAlloc prog σ 5 = aNewVar σ (.val (.int .u8 0)) := alloc_eq (by kernel_rfl) σ
theorem sto5 (σ : Sto) (v p : AV) : aStore prog σ 5 v p = aStoreN σ 1 v p := aStore_eq (by kernel_rfl) σ v p
theorem tO9 : tAgg prog 9 = some none := by kernel_rfl
theorem get9 (c : AV) (cs : List AV) : aGet prog 9 (c :: cs) = some c := by rw [aGet_one tO9]; rfl
theorem zero9 : aZero prog 9 = some (.val (.string ⟨#[]⟩)) := by kernel_rfl
theorem alloc9 (σ : Sto) : aAlloc prog σ 9 = aNewVar σ (.val (.string ⟨#[]⟩)) := alloc_eq (by kernel_rfl) σ
theorem sto9 (σ : Sto) (v p : AV) : aStore prog σ 9 v p = aStoreN σ 1 v p := aStore_eq (by kernel_rfl) σ v p
theorem len9 (σ : Sto) (x : AV) : aLen prog σ 9 x = aLenStr x := aLen_str (by kernel_rfl) σ x
theorem tyStr9 : tyStr prog 9 = true := by kernel_rfl
theorem tO21 : tAgg prog 21 = some none := by kernel_rfl
theorem get21 (c : AV) (cs : List AV) : aGet prog 21 (c :: cs) = some c := by rw [aGet_one tO21]; rfl
theorem zero21 : aZero prog 21 = some (.val (.int .i32 0)) := by kernel_rfl
theorem alloc21 (σ : Sto) : aAlloc prog σ 21 = aNewVar σ (.val (.int .i32 0)) := alloc_eq (by kernel_rfl) σ
theorem sto21 (σ : Sto) (v p : AV) : aStore prog σ 21 v p = aStoreN σ 1 v p := aStore_eq (by kernel_rfl) σ v p
theorem tO22 : tAgg prog 22 = some none := by kernel_rfl
theorem get22 (c : AV) (cs : List AV) : aGet prog 22 (c :: cs) = some c := by rw [aGet_one tO22]; rfl
theorem zero22 : aZero prog 22 = some (.nilsl) := by kernel_rfl
theorem alloc22 (σ : Sto) : aAlloc prog σ 22 = aNewVar σ (.nilsl) := alloc_eq (by kernel_rfl) σ
theorem sto22 (σ : Sto) (v p : AV) : aStore prog σ 22 v p = aStoreN σ 1 v p := aStore_eq (by kernel_rfl) σ v p
theorem len22 (σ : Sto) (x : AV) : aLen prog σ 22 x = aLenSl x := aLen_sl (by kernel_rfl) σ x
theorem idx22 (x i : AV) : aIndexAddr prog 22 x i = aAt 5 x i := aIndexAddr_eq (by kernel_rfl) x i
theorem app22 (σ : Sto) (u : TypeId) (nl : Bool) (es : List AV) (k : Nat) (x : AV) : aAppendO prog σ 22 u nl 5 es k x = (aSrcE prog u 5 x).bind fun ds => appAt σ nl 5 48 es k ds σ[k]? := aAppendO_eq (by kernel_rfl) σ nl es k x
theorem src22 (x : AV) : aSrcE prog 22 5 x = aSrcS 5 x := aSrcE_sl (by kernel_rfl) 5 x
theorem nil22 (σ : Sto) (u : TypeId) (y : AV) : aApp prog false σ 22 u .nilsl y = aAppendO prog (σ ++ [.cap 0 5]) 22 u true 5 [] σ.length y := aApp_nil (by kernel_rfl) (by decide) σ u y
theorem row22 {len : Nat} {parts : List (Nat × AV)} (hl : len * 5 ≤ 16777216) (hp : 0 < len) (hi : parts.map (·.1) = List.range len) (hv : ∀ p ∈ parts, p.2.cells.length = 5 ∧ p.2.cells.all AV.one = true) : aBuildRow prog 22 len parts = some (.sl 5 (parts.map (·.2))) := aBuildRow_eq (by kernel_rfl) hl hp hi hv
theorem row1_22 (σ : Sto) (v : AV) (h1 : v.cells.length = 5) (h2 : v.cells.all AV.one = true) : aRow prog false σ 22 1 [(0, v)] = some (.sl 5 [v], σ) := aRow_sl (by kernel_rfl) (by decide) (row22 (len := 1) (parts := [(0, v)]) (by decide) (by decide) rfl (by intro p hp; simp only [List.mem_singleton] at hp; subst hp; exact ⟨h1, h2⟩)) σ
theorem tM22 : tMk prog 22 = some ([.val (.int .i64 0), .val (.string ⟨#[]⟩), .val (.int .i64 0), .val (.int .i64 0), .val (.int .i64 0)], 5, 48) := by kernel_rfl
theorem mk22 (σ : Sto) (k k1 : IntKind) (n : Int) : aMakeSlice prog σ 22 (.val (.int k n)) (.val (.int k1 n)) = if 0 ≤ n ∧ fits n.toNat 48 = true then some (.osl σ.length 0 n.toNat 5, σ ++ [.cells (aZeros [.val (.int .i64 0), .val (.string ⟨#[]⟩), .val (.int .i64 0), .val (.int .i64 0), .val (.int .i64 0)] (n.toNat * 5))]) else none := aMakeSlice_eq tM22 σ k k1 n
theorem rowm22 (σ : Sto) (v : AV) (h0 : v.cells.length = 5) (h1 : v.cells.all AV.one = true) : aRow prog true σ 22 1 [(0, v)] = some (.osl σ.length 0 1 5, σ ++ [.cells v.cells]) := aRow_live tM22 (by decide) σ v h0 h1
theorem row0_22 (σ : Sto) : aRow prog false σ 22 0 [] = some (.slo false 5 [] σ.length, σ ++ [.cap 0 5]) := aRow_zero (by kernel_rfl) (by decide) σ
theorem tA24 : tAgg prog 24 = some (some 2) := by kernel_rfl
theorem get24 (a0 a1 : AV) (l : List AV) : aGet prog 24 (a0 :: a1 :: l) = some (.agg [a0, a1]) := by rw [aGet_many tA24, if_pos (by simp)]; rfl
theorem fA24_0 (p : AV) : aFieldAddr prog 24 0 p = aOff 0 p := aFieldAddr_eq (t := 3) (by kernel_rfl) p
theorem fd24_0 (cs : List AV) : aField prog 24 0 (.agg cs) = cs[0]? := aField_eq (t := 3) (r := none) (by kernel_rfl) (by kernel_rfl) cs
theorem fA24_1 (p : AV) : aFieldAddr prog 24 1 p = aOff 1 p := aFieldAddr_eq (t := 3) (by kernel_rfl) p
theorem fd24_1 (cs : List AV) : aField prog 24 1 (.agg cs) = cs[1]? := aField_eq (t := 3) (r := none) (by kernel_rfl) (by kernel_rfl) cs
theorem bld24 (parts : List (Nat × AV)) : aBuild prog 24 parts = (aFill (fun j => [(0, 1), (1, 1)][j]?) [.val (.int .i64 0), .val (.int .i64 0)] parts).map .agg := aBuild_eq (by kernel_rfl) parts
theorem zero24 : aZero prog 24 = some (.agg [.val (.int .i64 0), .val (.int .i64 0)]) := by kernel_rfl
theorem alloc24 (σ : Sto) : aAlloc prog σ 24 = aNewVar σ (.agg [.val (.int .i64 0), .val (.int .i64 0)]) := alloc_eq (by kernel_rfl) σ
theorem sto24 (σ : Sto) (v p : AV) : aStore prog σ 24 v p = aStoreN σ 2 v p := aStore_eq (by kernel_rfl) σ v p
theorem tO25 : tAgg prog 25 = some none := by kernel_rfl
theorem get25 (c : AV) (cs : List AV) : aGet prog 25 (c :: cs) = some c := by rw [aGet_one tO25]; rfl
theorem zero25 : aZero prog 25 = some (.val (.int .i64 0)) := by kernel_rfl
theorem alloc25 (σ : Sto) : aAlloc prog σ 25 = aNewVar σ (.val (.int .i64 0)) := alloc_eq (by kernel_rfl) σ
theorem sto25 (σ : Sto) (v p : AV) : aStore prog σ 25 v p = aStoreN σ 1 v p := aStore_eq (by kernel_rfl) σ v p
theorem tO28 : tAgg prog 28 = some none := by kernel_rfl
theorem get28 (c : AV) (cs : List AV) : aGet prog 28 (c :: cs) = some c := by rw [aGet_one tO28]; rfl
theorem zero28 : aZero prog 28 = some (.nilsl) := by kernel_rfl
theorem alloc28 (σ : Sto) : aAlloc prog σ 28 = aNewVar σ (.nilsl) := alloc_eq (by kernel_rfl) σ
theorem sto28 (σ : Sto) (v p : AV) : aStore prog σ 28 v p = aStoreN σ 1 v p := aStore_eq (by kernel_rfl) σ v p
theorem len28 (σ : Sto) (x : AV) : aLen prog σ 28 x = aLenSl x := aLen_sl (by kernel_rfl) σ x
theorem idx28 (x i : AV) : aIndexAddr prog 28 x i = aAt 4 x i := aIndexAddr_eq (by kernel_rfl) x i
theorem app28 (σ : Sto) (u : TypeId) (nl : Bool) (es : List AV) (k : Nat) (x : AV) : aAppendO prog σ 28 u nl 4 es k x = (aSrcE prog u 4 x).bind fun ds => appAt σ nl 4 40 es k ds σ[k]? := aAppendO_eq (by kernel_rfl) σ nl es k x
theorem src28 (x : AV) : aSrcE prog 28 4 x = aSrcS 4 x := aSrcE_sl (by kernel_rfl) 4 x
theorem nil28 (σ : Sto) (u : TypeId) (y : AV) : aApp prog false σ 28 u .nilsl y = aAppendO prog (σ ++ [.cap 0 4]) 28 u true 4 [] σ.length y := aApp_nil (by kernel_rfl) (by decide) σ u y
theorem row28 {len : Nat} {parts : List (Nat × AV)} (hl : len * 4 ≤ 16777216) (hp : 0 < len) (hi : parts.map (·.1) = List.range len) (hv : ∀ p ∈ parts, p.2.cells.length = 4 ∧ p.2.cells.all AV.one = true) : aBuildRow prog 28 len parts = some (.sl 4 (parts.map (·.2))) := aBuildRow_eq (by kernel_rfl) hl hp hi hv
theorem row1_28 (σ : Sto) (v : AV) (h1 : v.cells.length = 4) (h2 : v.cells.all AV.one = true) : aRow prog false σ 28 1 [(0, v)] = some (.sl 4 [v], σ) := aRow_sl (by kernel_rfl) (by decide) (row28 (len := 1) (parts := [(0, v)]) (by decide) (by decide) rfl (by intro p hp; simp only [List.mem_singleton] at hp; subst hp; exact ⟨h1, h2⟩)) σ
theorem tM28 : tMk prog 28 = some ([.val (.int .i64 0), .val (.string ⟨#[]⟩), .val (.int .i64 0), .val (.int .i64 0)], 4, 40) := by kernel_rfl
theorem mk28 (σ : Sto) (k k1 : IntKind) (n : Int) : aMakeSlice prog σ 28 (.val (.int k n)) (.val (.int k1 n)) = if 0 ≤ n ∧ fits n.toNat 40 = true then some (.osl σ.length 0 n.toNat 4, σ ++ [.cells (aZeros [.val (.int .i64 0), .val (.string ⟨#[]⟩), .val (.int .i64 0), .val (.int .i64 0)] (n.toNat * 4))]) else none := aMakeSlice_eq tM28 σ k k1 n
theorem rowm28 (σ : Sto) (v : AV) (h0 : v.cells.length = 4) (h1 : v.cells.all AV.one = true) : aRow prog true σ 28 1 [(0, v)] = some (.osl σ.length 0 1 4, σ ++ [.cells v.cells]) := aRow_live tM28 (by decide) σ v h0 h1
theorem row0_28 (σ : Sto) : aRow prog false σ 28 0 [] = some (.slo false 4 [] σ.length, σ ++ [.cap 0 4]) := aRow_zero (by kernel_rfl) (by decide) σ
theorem tA34 : tAgg prog 34 = some (some 4) := by kernel_rfl
theorem get34 (a0 a1 a2 a3 : AV) (l : List AV) : aGet prog 34 (a0 :: a1 :: a2 :: a3 :: l) = some (.agg [a0, a1, a2, a3]) := by rw [aGet_many tA34, if_pos (by simp)]; rfl
theorem fA34_0 (p : AV) : aFieldAddr prog 34 0 p = aOff 0 p := aFieldAddr_eq (t := 3) (by kernel_rfl) p
theorem fd34_0 (cs : List AV) : aField prog 34 0 (.agg cs) = cs[0]? := aField_eq (t := 3) (r := none) (by kernel_rfl) (by kernel_rfl) cs
theorem fA34_1 (p : AV) : aFieldAddr prog 34 1 p = aOff 1 p := aFieldAddr_eq (t := 9) (by kernel_rfl) p
theorem fd34_1 (cs : List AV) : aField prog 34 1 (.agg cs) = cs[1]? := aField_eq (t := 9) (r := none) (by kernel_rfl) (by kernel_rfl) cs
theorem fA34_2 (p : AV) : aFieldAddr prog 34 2 p = aOff 2 p := aFieldAddr_eq (t := 2) (by kernel_rfl) p
theorem fd34_2 (cs : List AV) : aField prog 34 2 (.agg cs) = cs[2]? := aField_eq (t := 2) (r := none) (by kernel_rfl) (by kernel_rfl) cs
theorem fA34_3 (p : AV) : aFieldAddr prog 34 3 p = aOff 3 p := aFieldAddr_eq (t := 3) (by kernel_rfl) p
theorem fd34_3 (cs : List AV) : aField prog 34 3 (.agg cs) = cs[3]? := aField_eq (t := 3) (r := none) (by kernel_rfl) (by kernel_rfl) cs
theorem bld34 (parts : List (Nat × AV)) : aBuild prog 34 parts = (aFill (fun j => [(0, 1), (1, 1), (2, 1), (3, 1)][j]?) [.val (.int .i64 0), .val (.string ⟨#[]⟩), .val (.int .i64 0), .val (.int .i64 0)] parts).map .agg := aBuild_eq (by kernel_rfl) parts
theorem zero34 : aZero prog 34 = some (.agg [.val (.int .i64 0), .val (.string ⟨#[]⟩), .val (.int .i64 0), .val (.int .i64 0)]) := by kernel_rfl
theorem alloc34 (σ : Sto) : aAlloc prog σ 34 = aNewVar σ (.agg [.val (.int .i64 0), .val (.string ⟨#[]⟩), .val (.int .i64 0), .val (.int .i64 0)]) := alloc_eq (by kernel_rfl) σ
theorem sto34 (σ : Sto) (v p : AV) : aStore prog σ 34 v p = aStoreN σ 4 v p := aStore_eq (by kernel_rfl) σ v p
theorem tA36 : tAgg prog 36 = some (some 5) := by kernel_rfl
theorem get36 (a0 a1 a2 a3 a4 : AV) (l : List AV) : aGet prog 36 (a0 :: a1 :: a2 :: a3 :: a4 :: l) = some (.agg [a0, a1, a2, a3, a4]) := by rw [aGet_many tA36, if_pos (by simp)]; rfl
theorem fA36_0 (p : AV) : aFieldAddr prog 36 0 p = aOff 0 p := aFieldAddr_eq (t := 3) (by kernel_rfl) p
theorem fd36_0 (cs : List AV) : aField prog 36 0 (.agg cs) = cs[0]? := aField_eq (t := 3) (r := none) (by kernel_rfl) (by kernel_rfl) cs
theorem fA36_1 (p : AV) : aFieldAddr prog 36 1 p = aOff 1 p := aFieldAddr_eq (t := 9) (by kernel_rfl) p
theorem fd36_1 (cs : List AV) : aField prog 36 1 (.agg cs) = cs[1]? := aField_eq (t := 9) (r := none) (by kernel_rfl) (by kernel_rfl) cs
theorem fA36_2 (p : AV) : aFieldAddr prog 36 2 p = aOff 2 p := aFieldAddr_eq (t := 2) (by kernel_rfl) p
theorem fd36_2 (cs : List AV) : aField prog 36 2 (.agg cs) = cs[2]? := aField_eq (t := 2) (r := none) (by kernel_rfl) (by kernel_rfl) cs
theorem fA36_3 (p : AV) : aFieldAddr prog 36 3 p = aOff 3 p := aFieldAddr_eq (t := 24) (by kernel_rfl) p
theorem fd36_3 (cs : List AV) : aField prog 36 3 (.agg cs) = some (.agg ((cs.drop 3).take 2)) := aField_eq (t := 24) (r := some 2) (by kernel_rfl) (by kernel_rfl) cs
theorem bld36 (parts : List (Nat × AV)) : aBuild prog 36 parts = (aFill (fun j => [(0, 1), (1, 1), (2, 1), (3, 2)][j]?) [.val (.int .i64 0), .val (.string ⟨#[]⟩), .val (.int .i64 0), .val (.int .i64 0), .val (.int .i64 0)] parts).map .agg := aBuild_eq (by kernel_rfl) parts
theorem zero36 : aZero prog 36 = some (.agg [.val (.int .i64 0), .val (.string ⟨#[]⟩), .val (.int .i64 0), .val (.int .i64 0), .val (.int .i64 0)]) := by kernel_rfl
theorem alloc36 (σ : Sto) : aAlloc prog σ 36 = aNewVar σ (.agg [.val (.int .i64 0), .val (.string ⟨#[]⟩), .val (.int .i64 0), .val (.int .i64 0), .val (.int .i64 0)]) := alloc_eq (by kernel_rfl) σ
theorem sto36 (σ : Sto) (v p : AV) : aStore prog σ 36 v p = aStoreN σ 5 v p := aStore_eq (by kernel_rfl) σ v p
theorem tO39 : tAgg prog 39 = some none := by kernel_rfl
theorem get39 (c : AV) (cs : List AV) : aGet prog 39 (c :: cs) = some c := by rw [aGet_one tO39]; rfl
theorem zero39 : aZero prog 39 = some (.nilsl) := by kernel_rfl
theorem alloc39 (σ : Sto) : aAlloc prog σ 39 = aNewVar σ (.nilsl) := alloc_eq (by kernel_rfl) σ
theorem sto39 (σ : Sto) (v p : AV) : aStore prog σ 39 v p = aStoreN σ 1 v p := aStore_eq (by kernel_rfl) σ v p
theorem len39 (σ : Sto) (x : AV) : aLen prog σ 39 x = aLenSl x := aLen_sl (by kernel_rfl) σ x
theorem idx39 (x i : AV) : aIndexAddr prog 39 x i = aAt 1 x i := aIndexAddr_eq (by kernel_rfl) x i
theorem app39 (σ : Sto) (u : TypeId) (nl : Bool) (es : List AV) (k : Nat) (x : AV) : aAppendO prog σ 39 u nl 1 es k x = (aSrcE prog u 1 x).bind fun ds => appAt σ nl 1 16 es k ds σ[k]? := aAppendO_eq (by kernel_rfl) σ nl es k x
theorem src39 (x : AV) : aSrcE prog 39 1 x = aSrcS 1 x := aSrcE_sl (by kernel_rfl) 1 x
theorem nil39 (σ : Sto) (u : TypeId) (y : AV) : aApp prog false σ 39 u .nilsl y = aAppendO prog (σ ++ [.cap 0 1]) 39 u true 1 [] σ.length y := aApp_nil (by kernel_rfl) (by decide) σ u y
theorem row39 {len : Nat} {parts : List (Nat × AV)} (hl : len * 1 ≤ 16777216) (hp : 0 < len) (hi : parts.map (·.1) = List.range len) (hv : ∀ p ∈ parts, p.2.cells.length = 1 ∧ p.2.cells.all AV.one = true) : aBuildRow prog 39 len parts = some (.sl 1 (parts.map (·.2))) := aBuildRow_eq (by kernel_rfl) hl hp hi hv
theorem row1_39 (σ : Sto) (v : AV) (h1 : v.cells.length = 1) (h2 : v.cells.all AV.one = true) : aRow prog false σ 39 1 [(0, v)] = some (.sl 1 [v], σ) := aRow_sl (by kernel_rfl) (by decide) (row39 (len := 1) (parts := [(0, v)]) (by decide) (by decide) rfl (by intro p hp; simp only [List.mem_singleton] at hp; subst hp; exact ⟨h1, h2⟩)) σ
theorem tM39 : tMk prog 39 = some ([.val (.string ⟨#[]⟩)], 1, 16) := by kernel_rfl
theorem mk39 (σ : Sto) (k k1 : IntKind) (n : Int) : aMakeSlice prog σ 39 (.val (.int k n)) (.val (.int k1 n)) = if 0 ≤ n ∧ fits n.toNat 16 = true then some (.osl σ.length 0 n.toNat 1, σ ++ [.cells (aZeros [.val (.string ⟨#[]⟩)] (n.toNat * 1))]) else none := aMakeSlice_eq tM39 σ k k1 n
theorem rowm39 (σ : Sto) (v : AV) (h0 : v.cells.length = 1) (h1 : v.cells.all AV.one = true) : aRow prog true σ 39 1 [(0, v)] = some (.osl σ.length 0 1 1, σ ++ [.cells v.cells]) := aRow_live tM39 (by decide) σ v h0 h1
theorem row0_39 (σ : Sto) : aRow prog false σ 39 0 [] = some (.slo false 1 [] σ.length, σ ++ [.cap 0 1]) := aRow_zero (by kernel_rfl) (by decide) σ
theorem tO41 : tAgg prog 41 = some none := by kernel_rfl
theorem get41 (c : AV) (cs : List AV) : aGet prog 41 (c :: cs) = some c := by rw [aGet_one tO41]; rfl
theorem zero41 : aZero prog 41 = some (.val (.pointer none)) := by kernel_rfl
theorem alloc41 (σ : Sto) : aAlloc prog σ 41 = aNewVar σ (.val (.pointer none)) := alloc_eq (by kernel_rfl) σ
theorem sto41 (σ : Sto) (v p : AV) : aStore prog σ 41 v p = aStoreN σ 1 v p := aStore_eq (by kernel_rfl) σ v p
theorem ptr41 (o off : Nat) : aBin prog .eql 41 (.ref o off) (.val (.pointer none)) = some (.val (.bool false)) := bin_ptr (by kernel_rfl) o off
theorem ptrn41 (o off : Nat) : aBin prog .neq 41 (.ref o off) (.val (.pointer none)) = some (.val (.bool true)) := bin_ptrn (by kernel_rfl) o off
theorem tA43 : tAgg prog 43 = some (some 4) := by kernel_rfl
theorem get43 (a0 a1 a2 a3 : AV) (l : List AV) : aGet prog 43 (a0 :: a1 :: a2 :: a3 :: l) = some (.agg [a0, a1, a2, a3]) := by rw [aGet_many tA43, if_pos (by simp)]; rfl
theorem fA43_0 (p : AV) : aFieldAddr prog 43 0 p = aOff 0 p := aFieldAddr_eq (t := 9) (by kernel_rfl) p
theorem fd43_0 (cs : List AV) : aField prog 43 0 (.agg cs) = cs[0]? := aField_eq (t := 9) (r := none) (by kernel_rfl) (by kernel_rfl) cs
theorem fA43_1 (p : AV) : aFieldAddr prog 43 1 p = aOff 1 p := aFieldAddr_eq (t := 24) (by kernel_rfl) p
theorem fd43_1 (cs : List AV) : aField prog 43 1 (.agg cs) = some (.agg ((cs.drop 1).take 2)) := aField_eq (t := 24) (r := some 2) (by kernel_rfl) (by kernel_rfl) cs
theorem fA43_2 (p : AV) : aFieldAddr prog 43 2 p = aOff 3 p := aFieldAddr_eq (t := 22) (by kernel_rfl) p
theorem fd43_2 (cs : List AV) : aField prog 43 2 (.agg cs) = cs[3]? := aField_eq (t := 22) (r := none) (by kernel_rfl) (by kernel_rfl) cs
theorem bld43 (parts : List (Nat × AV)) : aBuild prog 43 parts = (aFill (fun j => [(0, 1), (1, 2), (3, 1)][j]?) [.val (.string ⟨#[]⟩), .val (.int .i64 0), .val (.int .i64 0), .nilsl] parts).map .agg := aBuild_eq (by kernel_rfl) parts
theorem zero43 : aZero prog 43 = some (.agg [.val (.string ⟨#[]⟩), .val (.int .i64 0), .val (.int .i64 0), .nilsl]) := by kernel_rfl
theorem alloc43 (σ : Sto) : aAlloc prog σ 43 = aNewVar σ (.agg [.val (.string ⟨#[]⟩), .val (.int .i64 0), .val (.int .i64 0), .nilsl]) := alloc_eq (by kernel_rfl) σ
theorem sto43 (σ : Sto) (v p : AV) : aStore prog σ 43 v p = aStoreN σ 4 v p := aStore_eq (by kernel_rfl) σ v p
theorem tO46 : tAgg prog 46 = some none := by kernel_rfl
theorem get46 (c : AV) (cs : List AV) : aGet prog 46 (c :: cs) = some c := by rw [aGet_one tO46]; rfl
theorem zero46 : aZero prog 46 = some (.val .nilFunc) := by kernel_rfl
theorem alloc46 (σ : Sto) : aAlloc prog σ 46 = aNewVar σ (.val .nilFunc) := alloc_eq (by kernel_rfl) σ
theorem sto46 (σ : Sto) (v p : AV) : aStore prog σ 46 v p = aStoreN σ 1 v p := aStore_eq (by kernel_rfl) σ v p
theorem tO56 : tAgg prog 56 = some none := by kernel_rfl
theorem get56 (c : AV) (cs : List AV) : aGet prog 56 (c :: cs) = some c := by rw [aGet_one tO56]; rfl
theorem sto56 (σ : Sto) (v p : AV) : aStore prog σ 56 v p = aStoreN σ 1 v p := aStore_eq (by kernel_rfl) σ v p
theorem tO61 : tAgg prog 61 = some none := by kernel_rfl
theorem get61 (c : AV) (cs : List AV) : aGet prog 61 (c :: cs) = some c := by rw [aGet_one tO61]; rfl
theorem zero61 : aZero prog 61 = some (.val (.int .u64 0)) := by kernel_rfl
theorem alloc61 (σ : Sto) : aAlloc prog σ 61 = aNewVar σ (.val (.int .u64 0)) := alloc_eq (by kernel_rfl) σ
theorem sto61 (σ : Sto) (v p : AV) : aStore prog σ 61 v p = aStoreN σ 1 v p := aStore_eq (by kernel_rfl) σ v p
theorem tO62 : tAgg prog 62 = some none := by kernel_rfl
theorem get62 (c : AV) (cs : List AV) : aGet prog 62 (c :: cs) = some c := by rw [aGet_one tO62]; rfl
theorem zero62 : aZero prog 62 = some (.val (.map none)) := by kernel_rfl
theorem alloc62 (σ : Sto) : aAlloc prog σ 62 = aNewVar σ (.val (.map none)) := alloc_eq (by kernel_rfl) σ
theorem sto62 (σ : Sto) (v p : AV) : aStore prog σ 62 v p = aStoreN σ 1 v p := aStore_eq (by kernel_rfl) σ v p
theorem tO64 : tAgg prog 64 = some none := by kernel_rfl
theorem get64 (c : AV) (cs : List AV) : aGet prog 64 (c :: cs) = some c := by rw [aGet_one tO64]; rfl
theorem zero64 : aZero prog 64 = some (.val (.int .u32 0)) := by kernel_rfl
theorem alloc64 (σ : Sto) : aAlloc prog σ 64 = aNewVar σ (.val (.int .u32 0)) := alloc_eq (by kernel_rfl) σ
theorem sto64 (σ : Sto) (v p : AV) : aStore prog σ 64 v p = aStoreN σ 1 v p := aStore_eq (by kernel_rfl) σ v p
theorem tO67 : tAgg prog 67 = some none := by kernel_rfl
theorem get67 (c : AV) (cs : List AV) : aGet prog 67 (c :: cs) = some c := by rw [aGet_one tO67]; rfl
theorem zero67 : aZero prog 67 = some (.val (.int .i64 0)) := by kernel_rfl
theorem alloc67 (σ : Sto) : aAlloc prog σ 67 = aNewVar σ (.val (.int .i64 0)) := alloc_eq (by kernel_rfl) σ
theorem sto67 (σ : Sto) (v p : AV) : aStore prog σ 67 v p = aStoreN σ 1 v p := aStore_eq (by kernel_rfl) σ v p
theorem tO68 : tAgg prog 68 = some none := by kernel_rfl
theorem get68 (c : AV) (cs : List AV) : aGet prog 68 (c :: cs) = some c := by rw [aGet_one tO68]; rfl
theorem zero68 : aZero prog 68 = some (.val (.int .u64 0)) := by kernel_rfl
theorem alloc68 (σ : Sto) : aAlloc prog σ 68 = aNewVar σ (.val (.int .u64 0)) := alloc_eq (by kernel_rfl) σ
theorem sto68 (σ : Sto) (v p : AV) : aStore prog σ 68 v p = aStoreN σ 1 v p := aStore_eq (by kernel_rfl) σ v p
theorem tO71 : tAgg prog 71 = some none := by kernel_rfl
theorem get71 (c : AV) (cs : List AV) : aGet prog 71 (c :: cs) = some c := by rw [aGet_one tO71]; rfl
theorem zero71 : aZero prog 71 = some (.val (.pointer none)) := by kernel_rfl
theorem alloc71 (σ : Sto) : aAlloc prog σ 71 = aNewVar σ (.val (.pointer none)) := alloc_eq (by kernel_rfl) σ
theorem sto71 (σ : Sto) (v p : AV) : aStore prog σ 71 v p = aStoreN σ 1 v p := aStore_eq (by kernel_rfl) σ v p
theorem ptr71 (o off : Nat) : aBin prog .eql 71 (.ref o off) (.val (.pointer none)) = some (.val (.bool false)) := bin_ptr (by kernel_rfl) o off
theorem ptrn71 (o off : Nat) : aBin prog .neq 71 (.ref o off) (.val (.pointer none)) = some (.val (.bool true)) := bin_ptrn (by kernel_rfl) o off
theorem tO75 : tAgg prog 75 = some none := by kernel_rfl
theorem get75 (c : AV) (cs : List AV) : aGet prog 75 (c :: cs) = some c := by rw [aGet_one tO75]; rfl
theorem zero75 : aZero prog 75 = some (.nilsl) := by kernel_rfl
theorem alloc75 (σ : Sto) : aAlloc prog σ 75 = aNewVar σ (.nilsl) := alloc_eq (by kernel_rfl) σ
theorem sto75 (σ : Sto) (v p : AV) : aStore prog σ 75 v p = aStoreN σ 1 v p := aStore_eq (by kernel_rfl) σ v p
theorem len75 (σ : Sto) (x : AV) : aLen prog σ 75 x = aLenSl x := aLen_sl (by kernel_rfl) σ x
theorem idx75 (x i : AV) : aIndexAddr prog 75 x i = aAt 1 x i := aIndexAddr_eq (by kernel_rfl) x i
theorem app75 (σ : Sto) (u : TypeId) (nl : Bool) (es : List AV) (k : Nat) (x : AV) : aAppendO prog σ 75 u nl 1 es k x = (aSrcE prog u 1 x).bind fun ds => appAt σ nl 1 1 es k ds σ[k]? := aAppendO_eq (by kernel_rfl) σ nl es k x
theorem src75 (x : AV) : aSrcE prog 75 1 x = aSrcS 1 x := aSrcE_sl (by kernel_rfl) 1 x
theorem nil75 (σ : Sto) (u : TypeId) (y : AV) : aApp prog false σ 75 u .nilsl y = aAppendO prog (σ ++ [.cap 0 1]) 75 u true 1 [] σ.length y := aApp_nil (by kernel_rfl) (by decide) σ u y
theorem row75 {len : Nat} {parts : List (Nat × AV)} (hl : len * 1 ≤ 16777216) (hp : 0 < len) (hi : parts.map (·.1) = List.range len) (hv : ∀ p ∈ parts, p.2.cells.length = 1 ∧ p.2.cells.all AV.one = true) : aBuildRow prog 75 len parts = some (.sl 1 (parts.map (·.2))) := aBuildRow_eq (by kernel_rfl) hl hp hi hv
theorem row1_75 (σ : Sto) (v : AV) (h1 : v.cells.length = 1) (h2 : v.cells.all AV.one = true) : aRow prog false σ 75 1 [(0, v)] = some (.slf 1 [v], σ) := aRow_slf (by kernel_rfl) (by decide) (row75 (len := 1) (parts := [(0, v)]) (by decide) (by decide) rfl (by intro p hp; simp only [List.mem_singleton] at hp; subst hp; exact ⟨h1, h2⟩)) σ
theorem tM75 : tMk prog 75 = some ([.val (.int .u8 0)], 1, 1) := by kernel_rfl
theorem mk75 (σ : Sto) (k k1 : IntKind) (n : Int) : aMakeSlice prog σ 75 (.val (.int k n)) (.val (.int k1 n)) = if 0 ≤ n ∧ fits n.toNat 1 = true then some (.osl σ.length 0 n.toNat 1, σ ++ [.cells (aZeros [.val (.int .u8 0)] (n.toNat * 1))]) else none := aMakeSlice_eq tM75 σ k k1 n
theorem rowm75 (σ : Sto) (v : AV) (h0 : v.cells.length = 1) (h1 : v.cells.all AV.one = true) : aRow prog true σ 75 1 [(0, v)] = some (.osl σ.length 0 1 1, σ ++ [.cells v.cells]) := aRow_live tM75 (by decide) σ v h0 h1
theorem row0_75 (σ : Sto) : aRow prog false σ 75 0 [] = some (.slo false 1 [] σ.length, σ ++ [.cap 0 1]) := aRow_zero (by kernel_rfl) (by decide) σ
theorem tA78 : tAgg prog 78 = some (some 3) := by kernel_rfl
theorem get78 (a0 a1 a2 : AV) (l : List AV) : aGet prog 78 (a0 :: a1 :: a2 :: l) = some (.agg [a0, a1, a2]) := by rw [aGet_many tA78, if_pos (by simp)]; rfl
theorem fA78_0 (p : AV) : aFieldAddr prog 78 0 p = aOff 0 p := aFieldAddr_eq (t := 9) (by kernel_rfl) p
theorem fd78_0 (cs : List AV) : aField prog 78 0 (.agg cs) = cs[0]? := aField_eq (t := 9) (r := none) (by kernel_rfl) (by kernel_rfl) cs
theorem fA78_1 (p : AV) : aFieldAddr prog 78 1 p = aOff 1 p := aFieldAddr_eq (t := 9) (by kernel_rfl) p
theorem fd78_1 (cs : List AV) : aField prog 78 1 (.agg cs) = cs[1]? := aField_eq (t := 9) (r := none) (by kernel_rfl) (by kernel_rfl) cs
theorem fA78_2 (p : AV) : aFieldAddr prog 78 2 p = aOff 2 p := aFieldAddr_eq (t := 56) (by kernel_rfl) p
theorem fd78_2 (cs : List AV) : aField prog 78 2 (.agg cs) = cs[2]? := aField_eq (t := 56) (r := none) (by kernel_rfl) (by kernel_rfl) cs
theorem sto78 (σ : Sto) (v p : AV) : aStore prog σ 78 v p = aStoreN σ 3 v p := aStore_eq (by kernel_rfl) σ v p
theorem tO80 : tAgg prog 80 = some none := by kernel_rfl
theorem get80 (c : AV) (cs : List AV) : aGet prog 80 (c :: cs) = some c := by rw [aGet_one tO80]; rfl
theorem zero80 : aZero prog 80 = some (.val (.pointer none)) := by kernel_rfl
theorem alloc80 (σ : Sto) : aAlloc prog σ 80 = aNewVar σ (.val (.pointer none)) := alloc_eq (by kernel_rfl) σ
theorem sto80 (σ : Sto) (v p : AV) : aStore prog σ 80 v p = aStoreN σ 1 v p := aStore_eq (by kernel_rfl) σ v p
theorem ptr80 (o off : Nat) : aBin prog .eql 80 (.ref o off) (.val (.pointer none)) = some (.val (.bool false)) := bin_ptr (by kernel_rfl) o off
theorem ptrn80 (o off : Nat) : aBin prog .neq 80 (.ref o off) (.val (.pointer none)) = some (.val (.bool true)) := bin_ptrn (by kernel_rfl) o off
theorem tO81 : tAgg prog 81 = some none := by kernel_rfl
theorem get81 (c : AV) (cs : List AV) : aGet prog 81 (c :: cs) = some c := by rw [aGet_one tO81]; rfl
theorem zero81 : aZero prog 81 = some (.val (.pointer none)) := by kernel_rfl
theorem alloc81 (σ : Sto) : aAlloc prog σ 81 = aNewVar σ (.val (.pointer none)) := alloc_eq (by kernel_rfl) σ
theorem sto81 (σ : Sto) (v p : AV) : aStore prog σ 81 v p = aStoreN σ 1 v p := aStore_eq (by kernel_rfl) σ v p
theorem ptr81 (o off : Nat) : aBin prog .eql 81 (.ref o off) (.val (.pointer none)) = some (.val (.bool false)) := bin_ptr (by kernel_rfl) o off
theorem ptrn81 (o off : Nat) : aBin prog .neq 81 (.ref o off) (.val (.pointer none)) = some (.val (.bool true)) := bin_ptrn (by kernel_rfl) o off
theorem tA83 : tAgg prog 83 = some (some 1) := by kernel_rfl
theorem get83 (a0 : AV) (l : List AV) : aGet prog 83 (a0 :: l) = some (.agg [a0]) := by rw [aGet_many tA83, if_pos (by simp)]; rfl
theorem fA83_0 (p : AV) : aFieldAddr prog 83 0 p = aOff 0 p := aFieldAddr_eq (t := 9) (by kernel_rfl) p
theorem fd83_0 (cs : List AV) : aField prog 83 0 (.agg cs) = cs[0]? := aField_eq (t := 9) (r := none) (by kernel_rfl) (by kernel_rfl) cs
theorem bld83 (parts : List (Nat × AV)) : aBuild prog 83 parts = (aFill (fun j => [(0, 1)][j]?) [.val (.string ⟨#[]⟩)] parts).map .agg := aBuild_eq (by kernel_rfl) parts
theorem zero83 : aZero prog 83 = some (.agg [.val (.string ⟨#[]⟩)]) := by kernel_rfl
theorem alloc83 (σ : Sto) : aAlloc prog σ 83 = aNewVar σ (.agg [.val (.string ⟨#[]⟩)]) := alloc_eq (by kernel_rfl) σ
theorem sto83 (σ : Sto) (v p : AV) : aStore prog σ 83 v p = aStoreN σ 1 v p := aStore_eq (by kernel_rfl) σ v p
theorem tA85 : tAgg prog 85 = some (some 24) := by kernel_rfl
theorem get85 (a0 a1 a2 a3 a4 a5 a6 a7 a8 a9 a10 a11 a12 a13 a14 a15 a16 a17 a18 a19 a20 a21 a22 a23 : AV) (l : List AV) : aGet prog 85 (a0 :: a1 :: a2 :: a3 :: a4 :: a5 :: a6 :: a7 :: a8 :: a9 :: a10 :: a11 :: a12 :: a13 :: a14 :: a15 :: a16 :: a17 :: a18 :: a19 :: a20 :: a21 :: a22 :: a23 :: l) = some (.agg [a0, a1, a2, a3, a4, a5, a6, a7, a8, a9, a10, a11, a12, a13, a14, a15, a16, a17, a18, a19, a20, a21, a22, a23]) := by rw [aGet_many tA85, if_pos (by simp)]; rfl
theorem sto85 (σ : Sto) (v p : AV) : aStore prog σ 85 v p = aStoreN σ 24 v p := aStore_eq (by kernel_rfl) σ v p
theorem tA91 : tAgg prog 91 = some (some 20) := by kernel_rfl
theorem get91 (a0 a1 a2 a3 a4 a5 a6 a7 a8 a9 a10 a11 a12 a13 a14 a15 a16 a17 a18 a19 : AV) (l : List AV) : aGet prog 91 (a0 :: a1 :: a2 :: a3 :: a4 :: a5 :: a6 :: a7 :: a8 :: a9 :: a10 :: a11 :: a12 :: a13 :: a14 :: a15 :: a16 :: a17 :: a18 :: a19 :: l) = some (.agg [a0, a1, a2, a3, a4, a5, a6, a7, a8, a9, a10, a11, a12, a13, a14, a15, a16, a17, a18, a19]) := by rw [aGet_many tA91, if_pos (by simp)]; rfl
theorem sto91 (σ : Sto) (v p : AV) : aStore prog σ 91 v p = aStoreN σ 20 v p := aStore_eq (by kernel_rfl) σ v p
theorem tA92 : tAgg prog 92 = some (some 65) := by kernel_rfl
theorem get92 (a0 a1 a2 a3 a4 a5 a6 a7 a8 a9 a10 a11 a12 a13 a14 a15 a16 a17 a18 a19 a20 a21 a22 a23 a24 a25 a26 a27 a28 a29 a30 a31 a32 a33 a34 a35 a36 a37 a38 a39 a40 a41 a42 a43 a44 a45 a46 a47 a48 a49 a50 a51 a52 a53 a54 a55 a56 a57 a58 a59 a60 a61 a62 a63 a64 : AV) (l : List AV) : aGet prog 92 (a0 :: a1 :: a2 :: a3 :: a4 :: a5 :: a6 :: a7 :: a8 :: a9 :: a10 :: a11 :: a12 :: a13 :: a14 :: a15 :: a16 :: a17 :: a18 :: a19 :: a20 :: a21 :: a22 :: a23 :: a24 :: a25 :: a26 :: a27 :: a28 :: a29 :: a30 :: a31 :: a32 :: a33 :: a34 :: a35 :: a36 :: a37 :: a38 :: a39 :: a40 :: a41 :: a42 :: a43 :: a44 :: a45 :: a46 :: a47 :: a48 :: a49 :: a50 :: a51 :: a52 :: a53 :: a54 :: a55 :: a56 :: a57 :: a58 :: a59 :: a60 :: a61 :: a62 :: a63 :: a64 :: l) = some (.agg [a0, a1, a2, a3, a4, a5, a6, a7, a8, a9, a10, a11, a12, a13, a14, a15, a16, a17, a18, a19, a20, a21, a22, a23, a24, a25, a26, a27, a28, a29, a30, a31, a32, a33, a34, a35, a36, a37, a38, a39, a40, a41, a42, a43, a44, a45, a46, a47, a48, a49, a50, a51, a52, a53, a54, a55, a56, a57, a58, a59, a60, a61, a62, a63, a64]) := by rw [aGet_many tA92, if_pos (by simp)]; rfl
theorem sto92 (σ : Sto) (v p : AV) : aStore prog σ 92 v p = aStoreN σ 65 v p := aStore_eq (by kernel_rfl) σ v p
theorem tA96 : tAgg prog 96 = some (some 32) := by kernel_rfl
theorem get96 (a0 a1 a2 a3 a4 a5 a6 a7 a8 a9 a10 a11 a12 a13 a14 a15 a16 a17 a18 a19 a20 a21 a22 a23 a24 a25 a26 a27 a28 a29 a30 a31 : AV) (l : List AV) : aGet prog 96 (a0 :: a1 :: a2 :: a3 :: a4 :: a5 :: a6 :: a7 :: a8 :: a9 :: a10 :: a11 :: a12 :: a13 :: a14 :: a15 :: a16 :: a17 :: a18 :: a19 :: a20 :: a21 :: a22 :: a23 :: a24 :: a25 :: a26 :: a27 :: a28 :: a29 :: a30 :: a31 :: l) = some (.agg [a0, a1, a2, a3, a4, a5, a6, a7, a8, a9, a10, a11, a12, a13, a14, a15, a16, a17, a18, a19, a20, a21, a22, a23, a24, a25, a26, a27, a28, a29, a30, a31]) := by rw [aGet_many tA96, if_pos (by simp)]; rfl
theorem sto96 (σ : Sto) (v p : AV) : aStore prog σ 96 v p = aStoreN σ 32 v p := aStore_eq (by kernel_rfl) σ v p
theorem tA97 : tAgg prog 97 = some (some 64) := by kernel_rfl
theorem get97 (a0 a1 a2 a3 a4 a5 a6 a7 a8 a9 a10 a11 a12 a13 a14 a15 a16 a17 a18 a19 a20 a21 a22 a23 a24 a25 a26 a27 a28 a29 a30 a31 a32 a33 a34 a35 a36 a37 a38 a39 a40 a41 a42 a43 a44 a45 a46 a47 a48 a49 a50 a51 a52 a53 a54 a55 a56 a57 a58 a59 a60 a61 a62 a63 : AV) (l : List AV) : aGet prog 97 (a0 :: a1 :: a2 :: a3 :: a4 :: a5 :: a6 :: a7 :: a8 :: a9 :: a10 :: a11 :: a12 :: a13 :: a14 :: a15 :: a16 :: a17 :: a18 :: a19 :: a20 :: a21 :: a22 :: a23 :: a24 :: a25 :: a26 :: a27 :: a28 :: a29 :: a30 :: a31 :: a32 :: a33 :: a34 :: a35 :: a36 :: a37 :: a38 :: a39 :: a40 :: a41 :: a42 :: a43 :: a44 :: a45 :: a46 :: a47 :: a48 :: a49 :: a50 :: a51 :: a52 :: a53 :: a54 :: a55 :: a56 :: a57 :: a58 :: a59 :: a60 :: a61 :: a62 :: a63 :: l) = some (.agg [a0, a1, a2, a3, a4, a5, a6, a7, a8, a9, a10, a11, a12, a13, a14, a15, a16, a17, a18, a19, a20, a21, a22, a23, a24, a25, a26, a27, a28, a29, a30, a31, a32, a33, a34, a35, a36, a37, a38, a39, a40, a41, a42, a43, a44, a45, a46, a47, a48, a49, a50, a51, a52, a53, a54, a55, a56, a57, a58, a59, a60, a61, a62, a63]) := by rw [aGet_many tA97, if_pos (by simp)]; rfl
theorem sto97 (σ : Sto) (v p : AV) : aStore prog σ 97 v p = aStoreN σ 64 v p := aStore_eq (by kernel_rfl) σ v p
theorem cvt2_68 (k : IntKind) (n : Int) (σ : Sto) : aConv prog σ 2 68 (.val (.int k n)) = some (.val (.int .u64 (IntKind.wrap .u64 n)), σ) := aConv_int (ks := .i64) (by kernel_rfl) (by kernel_rfl) k n σ
theorem cvt3_5 (k : IntKind) (n : Int) (σ : Sto) : aConv prog σ 3 5 (.val (.int k n)) = some (.val (.int .u8 (IntKind.wrap .u8 n)), σ) := aConv_int (ks := .i64) (by kernel_rfl) (by kernel_rfl) k n σ
theorem cvt3_61 (k : IntKind) (n : Int) (σ : Sto) : aConv prog σ 3 61 (.val (.int k n)) = some (.val (.int .u64 (IntKind.wrap .u64 n)), σ) := aConv_int (ks := .i64) (by kernel_rfl) (by kernel_rfl) k n σ
theorem cvt3_68 (k : IntKind) (n : Int) (σ : Sto) : aConv prog σ 3 68 (.val (.int k n)) = some (.val (.int .u64 (IntKind.wrap .u64 n)), σ) := aConv_int (ks := .i64) (by kernel_rfl) (by kernel_rfl) k n σ
theorem cvt5_2 (k : IntKind) (n : Int) (σ : Sto) : aConv prog σ 5 2 (.val (.int k n)) = some (.val (.int .i64 (IntKind.wrap .i64 n)), σ) := aConv_int (ks := .u8) (by kernel_rfl) (by kernel_rfl) k n σ
theorem cvt5_3 (k : IntKind) (n : Int) (σ : Sto) : aConv prog σ 5 3 (.val (.int k n)) = some (.val (.int .i64 (IntKind.wrap .i64 n)), σ) := aConv_int (ks := .u8) (by kernel_rfl) (by kernel_rfl) k n σ
theorem cvt5_64 (k : IntKind) (n : Int) (σ : Sto) : aConv prog σ 5 64 (.val (.int k n)) = some (.val (.int .u32 (IntKind.wrap .u32 n)), σ) := aConv_int (ks := .u8) (by kernel_rfl) (by kernel_rfl) k n σ
theorem cvt5_68 (k : IntKind) (n : Int) (σ : Sto) : aConv prog σ 5 68 (.val (.int k n)) = some (.val (.int .u64 (IntKind.wrap .u64 n)), σ) := aConv_int (ks := .u8) (by kernel_rfl) (by kernel_rfl) k n σ
theorem cvt61_64 (k : IntKind) (n : Int) (σ : Sto) : aConv prog σ 61 64 (.val (.int k n)) = some (.val (.int .u32 (IntKind.wrap .u32 n)), σ) := aConv_int (ks := .u64) (by kernel_rfl) (by kernel_rfl) k n σ
theorem cvt64_5 (k : IntKind) (n : Int) (σ : Sto) : aConv prog σ 64 5 (.val (.int k n)) = some (.val (.int .u8 (IntKind.wrap .u8 n)), σ) := aConv_int (ks := .u32) (by kernel_rfl) (by kernel_rfl) k n σ
theorem cvt68_2 (k : IntKind) (n : Int) (σ : Sto) : aConv prog σ 68 2 (.val (.int k n)) = some (.val (.int .i64 (IntKind.wrap .i64 n)), σ) := aConv_int (ks := .u64) (by kernel_rfl) (by kernel_rfl) k n σ
theorem cvt68_5 (k : IntKind) (n : Int) (σ : Sto) : aConv prog σ 68 5 (.val (.int k n)) = some (.val (.int .u8 (IntKind.wrap .u8 n)), σ) := aConv_int (ks := .u64) (by kernel_rfl) (by kernel_rfl) k n σ
theorem cvt68_64 (k : IntKind) (n : Int) (σ : Sto) : aConv prog σ 68 64 (.val (.int k n)) = some (.val (.int .u32 (IntKind.wrap .u32 n)), σ) := aConv_int (ks := .u64) (by kernel_rfl) (by kernel_rfl) k n σ
theorem cvb9_75 (σ : Sto) (x : ByteArray) (hx : x.size ≤ 4611686018427387904) : aConv prog σ 9 75 (.val (.string x)) = some (rowAV 1 false (x.data.toList.map byteAV), σ) := by rw [row_false]; exact aConv_toB (by kernel_rfl) (by kernel_rfl) σ x hx
theorem en3 : Enters prog 3 := enters_of func3 (by kernel_rfl) rfl
theorem en5 : Enters prog 5 := enters_of func5 (by kernel_rfl) rfl
theorem en6 : Enters prog 6 := enters_of func6 (by kernel_rfl) rfl
theorem en7 : Enters prog 7 := enters_of func7 (by kernel_rfl) rfl
theorem en8 : Enters prog 8 := enters_of func8 (by kernel_rfl) rfl
theorem en9 : Enters prog 9 := enters_of func9 (by kernel_rfl) rfl
theorem en10 : Enters prog 10 := enters_of func10 (by kernel_rfl) rfl
theorem en11 : Enters prog 11 := enters_of func11 (by kernel_rfl) rfl
theorem en12 : Enters prog 12 := enters_of func12 (by kernel_rfl) rfl
theorem en13 : Enters prog 13 := enters_of func13 (by kernel_rfl) rfl
theorem en14 : Enters prog 14 := enters_of func14 (by kernel_rfl) rfl
theorem en15 : Enters prog 15 := enters_of func15 (by kernel_rfl) rfl
theorem en16 : Enters prog 16 := enters_of func16 (by kernel_rfl) rfl
theorem en17 : Enters prog 17 := enters_of func17 (by kernel_rfl) rfl
theorem en18 : Enters prog 18 := enters_of func18 (by kernel_rfl) rfl
theorem en19 : Enters prog 19 := enters_of func19 (by kernel_rfl) rfl
theorem en20 : Enters prog 20 := enters_of func20 (by kernel_rfl) rfl
theorem en21 : Enters prog 21 := enters_of func21 (by kernel_rfl) rfl
theorem en22 : Enters prog 22 := enters_of func22 (by kernel_rfl) rfl
theorem en23 : Enters prog 23 := enters_of func23 (by kernel_rfl) rfl
theorem en24 : Enters prog 24 := enters_of func24 (by kernel_rfl) rfl
theorem en25 : Enters prog 25 := enters_of func25 (by kernel_rfl) rfl
theorem en26 : Enters prog 26 := enters_of func26 (by kernel_rfl) rfl
theorem en27 : Enters prog 27 := enters_of func27 (by kernel_rfl) rfl
theorem en28 : Enters prog 28 := enters_of func28 (by kernel_rfl) rfl
theorem en29 : Enters prog 29 := enters_of func29 (by kernel_rfl) rfl
theorem en30 : Enters prog 30 := enters_of func30 (by kernel_rfl) rfl
theorem en31 : Enters prog 31 := enters_of func31 (by kernel_rfl) rfl
theorem en32 : Enters prog 32 := enters_of func32 (by kernel_rfl) rfl
theorem en33 : Enters prog 33 := enters_of func33 (by kernel_rfl) rfl
theorem en34 : Enters prog 34 := enters_of func34 (by kernel_rfl) rfl
theorem en35 : Enters prog 35 := enters_of func35 (by kernel_rfl) rfl
theorem en37 : Enters prog 37 := enters_of func37 (by kernel_rfl) rfl
theorem en39 : Enters prog 39 := enters_of func39 (by kernel_rfl) rfl
theorem en41 : Enters prog 41 := enters_of func41 (by kernel_rfl) rfl
theorem en42 : Enters prog 42 := enters_of func42 (by kernel_rfl) rfl
theorem en43 : Enters prog 43 := enters_of func43 (by kernel_rfl) rfl
theorem en44 : Enters prog 44 := enters_of func44 (by kernel_rfl) rfl
theorem en45 : Enters prog 45 := enters_of func45 (by kernel_rfl) rfl
theorem en46 : Enters prog 46 := enters_of func46 (by kernel_rfl) rfl
theorem en47 : Enters prog 47 := enters_of func47 (by kernel_rfl) rfl
theorem en48 : Enters prog 48 := enters_of func48 (by kernel_rfl) rfl
theorem en49 : Enters prog 49 := enters_of func49 (by kernel_rfl) rfl
theorem en50 : Enters prog 50 := enters_of func50 (by kernel_rfl) rfl
theorem en51 : Enters prog 51 := enters_of func51 (by kernel_rfl) rfl
theorem en52 : Enters prog 52 := enters_of func52 (by kernel_rfl) rfl
theorem en53 : Enters prog 53 := enters_of func53 (by kernel_rfl) rfl
theorem en54 : Enters prog 54 := enters_of func54 (by kernel_rfl) rfl
theorem en55 : Enters prog 55 := enters_of func55 (by kernel_rfl) rfl
theorem en56 : Enters prog 56 := enters_of func56 (by kernel_rfl) rfl
theorem en57 : Enters prog 57 := enters_of func57 (by kernel_rfl) rfl
theorem en58 : Enters prog 58 := enters_of func58 (by kernel_rfl) rfl
theorem en59 : Enters prog 59 := enters_of func59 (by kernel_rfl) rfl
theorem en60 : Enters prog 60 := enters_of func60 (by kernel_rfl) rfl
theorem en61 : Enters prog 61 := enters_of func61 (by kernel_rfl) rfl
theorem en62 : Enters prog 62 := enters_of func62 (by kernel_rfl) rfl
theorem en63 : Enters prog 63 := enters_of func63 (by kernel_rfl) rfl
theorem en64 : Enters prog 64 := enters_of func64 (by kernel_rfl) rfl
theorem en65 : Enters prog 65 := enters_of func65 (by kernel_rfl) rfl
theorem en66 : Enters prog 66 := enters_of func66 (by kernel_rfl) rfl
theorem en67 : Enters prog 67 := enters_of func67 (by kernel_rfl) rfl
theorem en68 : Enters prog 68 := enters_of func68 (by kernel_rfl) rfl
theorem mixed : prog.follows .mixedOrders = true := by kernel_rfl
attribute [go_sem] get2 zero2 alloc2 sto2 get3 zero3 alloc3 sto3 get4 zero4 alloc4 sto4 tyBool4 get5 zero5 alloc5 sto5 get9 zero9 alloc9 sto9 len9 tyStr9 get21 zero21 alloc21 sto21 get22 zero22 alloc22 sto22 len22 idx22 app22 src22 nil22 row1_22 mk22 rowm22 row0_22 get24 fA24_0 fd24_0 fA24_1 fd24_1 bld24 zero24 alloc24 sto24 get25 zero25 alloc25 sto25 get28 zero28 alloc28 sto28 len28 idx28 app28 src28 nil28 row1_28 mk28 rowm28 row0_28 get34 fA34_0 fd34_0 fA34_1 fd34_1 fA34_2 fd34_2 fA34_3 fd34_3 bld34 zero34 alloc34 sto34 get36 fA36_0 fd36_0 fA36_1 fd36_1 fA36_2 fd36_2 fA36_3 fd36_3 bld36 zero36 alloc36 sto36 get39 zero39 alloc39 sto39 len39 idx39 app39 src39 nil39 row1_39 mk39 rowm39 row0_39 get41 zero41 alloc41 sto41 ptr41 ptrn41 get43 fA43_0 fd43_0 fA43_1 fd43_1 fA43_2 fd43_2 bld43 zero43 alloc43 sto43 get46 zero46 alloc46 sto46 get56 sto56 get61 zero61 alloc61 sto61 get62 zero62 alloc62 sto62 get64 zero64 alloc64 sto64 get67 zero67 alloc67 sto67 get68 zero68 alloc68 sto68 get71 zero71 alloc71 sto71 ptr71 ptrn71 get75 zero75 alloc75 sto75 len75 idx75 app75 src75 nil75 row1_75 mk75 rowm75 row0_75 get78 fA78_0 fd78_0 fA78_1 fd78_1 fA78_2 fd78_2 sto78 get80 zero80 alloc80 sto80 ptr80 ptrn80 get81 zero81 alloc81 sto81 ptr81 ptrn81 get83 fA83_0 fd83_0 bld83 zero83 alloc83 sto83 get85 sto85 get91 sto91 get92 sto92 get96 sto96 get97 sto97 cvt2_68 cvt3_5 cvt3_61 cvt3_68 cvt5_2 cvt5_3 cvt5_64 cvt5_68 cvt61_64 cvt64_5 cvt68_2 cvt68_5 cvt68_64
end Go.Proofs.Tryd

