import Derived.Test.YtnjehllmlheagaaDoorRgEvF
import Derived.Test.YtnjehllmlheagaaDoorProg
/-! What is known of types. -/
namespace Go.Proofs.Tryd
set_option linter.unusedSimpArgs false
set_option linter.unusedVariables false
open Go Go.Proofs.Ev
theorem tO2 : tAgg prog 2 = some none := by kernel_rfl
theorem get2 (c : AV) (cs : List AV) : aGet prog 2 (c :: cs) = some c := by rw [aGet_one tO2]; rfl
theorem zero2 : aZero prog 2 = some (.val (.int .i64 0)) := by kernel_rfl
theorem alloc2 (σ : Sto) : aAlloc prog σ 2 = aNewVar σ (.val (.int .i64 0)) := alloc_eq (by kernel_rfl) σ
theorem sto2 (σ : Sto) (v p : AV) : aStore prog σ 2 v p = aStoreN σ 1 v p := aStore_eq (by kernel_rfl) σ v p
theorem tO3 : tAgg prog 3 = some none := by kernel_rfl
theorem get3 (c : AV) (cs : List AV) : aGet prog 3 (c :: cs) = some c := by rw [aGet_one tO3]; rfl
theorem zero3 : aZero prog 3 = some (.val (.int .i64 0)) := by kernel_rfl
theorem alloc3 (σ : Sto) : aAlloc prog σ 3 = aNewVar σ (.val (.int .i64 0)) := alloc_eq (by kernel_rfl) σ
theorem sto3 (σ : Sto) (v p : AV) : aStore prog σ 3 v p = aStoreN σ 1 v p := aStore_eq (by kernel_rfl) σ v p
theorem tO4 : tAgg prog 4 = some none := by kernel_rfl
theorem get4 (c : AV) (cs : List AV) : aGet prog 4 (c :: cs) = some c := by rw [aGet_one tO4]; rfl
theorem zero4 : aZero prog 4 = some (.val (.bool false)) := by kernel_rfl
theorem alloc4 (σ : Sto) : aAlloc prog σ 4 = aNewVar σ (.val (.bool false)) := alloc_eq (by kernel_rfl) σ
theorem sto4 (σ : Sto) (v p : AV) : aStore prog σ 4 v p = aStoreN σ 1 v p := aStore_eq (by kernel_rfl) σ v p
theorem tyBool4 : tyBool prog 4 = true := by kernel_rfl
theorem tO5 : tAgg prog 5 = some none := by kernel_rfl
theorem get5 (c : AV) (cs : List AV) : aGet prog 5 (c :: cs) = some c := by rw [aGet_one tO5]; rfl
theorem zero5 : aZero prog 5 = some (.val (.int .u8 0)) := by kernel_rfl
theorem alloc5 (σ : Sto) : aAlloc prog σ 5 = aNewVar σ (.val (.int .u8 0)) := alloc_eq (by kernel_rfl) σ
theorem sto5 (σ : Sto) (v p : AV) : aStore prog σ 5 v p = aStoreN σ 1 v p := aStore_eq (by kernel_rfl) σ v p
theorem tO9 : tAgg prog 9 = some none := by kernel_rfl
theorem get9 (c : AV) (cs : List AV) : aGet prog 9 (c :: cs) = some c := by rw [aGet_one tO9]; rfl
theorem zero9 : aZero prog 9 = some (.val (.string ⟨#[]⟩)) := by kernel_rfl
theorem alloc9 (σ : Sto) : aAlloc prog σ 9 = aNewVar σ (.val (.string ⟨#[]⟩)) := alloc_eq (by kernel_rfl) σ
theorem sto9 (σ : Sto) (v p : AV) : aStore prog σ 9 v p = aStoreN σ 1 v p := aStore_eq (by kernel_rfl) σ v p
theorem len9 (σ : Sto) (x : AV) : aLen prog σ 9 x = aLenStr x := aLen_str (by kernel_rfl) σ x
theorem tyStr9 : tyStr prog 9 = true := by kernel_rfl
theorem tO21 : tAgg prog 21 = some none := by kernel_rfl
theorem get21 (c : AV) (cs : List AV) : aGet prog 21 (c :: cs) = some c := by rw [aGet_one tO21]; rfl
theorem zero21 : aZero prog 21 = some (.val (.int .i32 0)) := by kernel_rfl
theorem alloc21 (σ : Sto) : aAlloc prog σ 21 = aNewVar σ (.val (.int .i32 0)) := alloc_eq (by kernel_rfl) σ
theorem sto21 (σ : Sto) (v p : AV) : aStore prog σ 21 v p = aStoreN σ 1 v p := aStore_eq (by kernel_rfl) σ v p
theorem tO22 : tAgg prog 22 = some none := by kernel_rfl
theorem get22 (c : AV) (cs : List AV) : aGet prog 22 (c :: cs) = some c := by rw [aGet_one tO22]; rfl
theorem zero22 : aZero prog 22 = some (.val (.int .u16 0)) := by kernel_rfl
theorem alloc22 (σ : Sto) : aAlloc prog σ 22 = aNewVar σ (.val (.int .u16 0)) := alloc_eq (by kernel_rfl) σ
theorem sto22 (σ : Sto) (v p : AV) : aStore prog σ 22 v p = aStoreN σ 1 v p := aStore_eq (by kernel_rfl) σ v p
theorem tA24 : tAgg prog 24 = some (some 2) := by kernel_rfl
theorem get24 (a0 a1 : AV) (l : List AV) : aGet prog 24 (a0 :: a1 :: l) = some (.agg [a0, a1]) := by rw [aGet_many tA24, if_pos (by simp)]; rfl
theorem fA24_0 (p : AV) : aFieldAddr prog 24 0 p = aOff 0 p := aFieldAddr_eq (t := 9) (by kernel_rfl) p
theorem fd24_0 (cs : List AV) : aField prog 24 0 (.agg cs) = cs[0]? := aField_eq (t := 9) (r := none) (by kernel_rfl) (by kernel_rfl) cs
theorem fA24_1 (p : AV) : aFieldAddr prog 24 1 p = aOff 1 p := aFieldAddr_eq (t := 3) (by kernel_rfl) p
theorem fd24_1 (cs : List AV) : aField prog 24 1 (.agg cs) = cs[1]? := aField_eq (t := 3) (r := none) (by kernel_rfl) (by kernel_rfl) cs
theorem bld24 (parts : List (Nat × AV)) : aBuild prog 24 parts = (aFill (fun j => [(0, 1), (1, 1)][j]?) [.val (.string ⟨#[]⟩), .val (.int .i64 0)] parts).map .agg := aBuild_eq (by kernel_rfl) parts
theorem zero24 : aZero prog 24 = some (.agg [.val (.string ⟨#[]⟩), .val (.int .i64 0)]) := by kernel_rfl
theorem alloc24 (σ : Sto) : aAlloc prog σ 24 = aNewVar σ (.agg [.val (.string ⟨#[]⟩), .val (.int .i64 0)]) := alloc_eq (by kernel_rfl) σ
theorem sto24 (σ : Sto) (v p : AV) : aStore prog σ 24 v p = aStoreN σ 2 v p := aStore_eq (by kernel_rfl) σ v p
theorem tA26 : tAgg prog 26 = some (some 2) := by kernel_rfl
theorem get26 (a0 a1 : AV) (l : List AV) : aGet prog 26 (a0 :: a1 :: l) = some (.agg [a0, a1]) := by rw [aGet_many tA26, if_pos (by simp)]; rfl
theorem fA26_0 (p : AV) : aFieldAddr prog 26 0 p = aOff 0 p := aFieldAddr_eq (t := 3) (by kernel_rfl) p
theorem fd26_0 (cs : List AV) : aField prog 26 0 (.agg cs) = cs[0]? := aField_eq (t := 3) (r := none) (by kernel_rfl) (by kernel_rfl) cs
theorem fA26_1 (p : AV) : aFieldAddr prog 26 1 p = aOff 1 p := aFieldAddr_eq (t := 3) (by kernel_rfl) p
theorem fd26_1 (cs : List AV) : aField prog 26 1 (.agg cs) = cs[1]? := aField_eq (t := 3) (r := none) (by kernel_rfl) (by kernel_rfl) cs
theorem bld26 (parts : List (Nat × AV)) : aBuild prog 26 parts = (aFill (fun j => [(0, 1), (1, 1)][j]?) [.val (.int .i64 0), .val (.int .i64 0)] parts).map .agg := aBuild_eq (by kernel_rfl) parts
theorem zero26 : aZero prog 26 = some (.agg [.val (.int .i64 0), .val (.int .i64 0)]) := by kernel_rfl
theorem alloc26 (σ : Sto) : aAlloc prog σ 26 = aNewVar σ (.agg [.val (.int .i64 0), .val (.int .i64 0)]) := alloc_eq (by kernel_rfl) σ
theorem sto26 (σ : Sto) (v p : AV) : aStore prog σ 26 v p = aStoreN σ 2 v p := aStore_eq (by kernel_rfl) σ v p
theorem tA28 : tAgg prog 28 = some (some 4) := by kernel_rfl
theorem get28 (a0 a1 a2 a3 : AV) (l : List AV) : aGet prog 28 (a0 :: a1 :: a2 :: a3 :: l) = some (.agg [a0, a1, a2, a3]) := by rw [aGet_many tA28, if_pos (by simp)]; rfl
theorem fA28_0 (p : AV) : aFieldAddr prog 28 0 p = aOff 0 p := aFieldAddr_eq (t := 24) (by kernel_rfl) p
theorem fd28_0 (cs : List AV) : aField prog 28 0 (.agg cs) = some (.agg ((cs.drop 0).take 2)) := aField_eq (t := 24) (r := some 2) (by kernel_rfl) (by kernel_rfl) cs
theorem fA28_1 (p : AV) : aFieldAddr prog 28 1 p = aOff 2 p := aFieldAddr_eq (t := 26) (by kernel_rfl) p
theorem fd28_1 (cs : List AV) : aField prog 28 1 (.agg cs) = some (.agg ((cs.drop 2).take 2)) := aField_eq (t := 26) (r := some 2) (by kernel_rfl) (by kernel_rfl) cs
theorem bld28 (parts : List (Nat × AV)) : aBuild prog 28 parts = (aFill (fun j => [(0, 2), (2, 2)][j]?) [.val (.string ⟨#[]⟩), .val (.int .i64 0), .val (.int .i64 0), .val (.int .i64 0)] parts).map .agg := aBuild_eq (by kernel_rfl) parts
theorem zero28 : aZero prog 28 = some (.agg [.val (.string ⟨#[]⟩), .val (.int .i64 0), .val (.int .i64 0), .val (.int .i64 0)]) := by kernel_rfl
theorem alloc28 (σ : Sto) : aAlloc prog σ 28 = aNewVar σ (.agg [.val (.string ⟨#[]⟩), .val (.int .i64 0), .val (.int .i64 0), .val (.int .i64 0)]) := alloc_eq (by kernel_rfl) σ
theorem sto28 (σ : Sto) (v p : AV) : aStore prog σ 28 v p = aStoreN σ 4 v p := aStore_eq (by kernel_rfl) σ v p
theorem tO29 : tAgg prog 29 = some none := by kernel_rfl
theorem get29 (c : AV) (cs : List AV) : aGet prog 29 (c :: cs) = some c := by rw [aGet_one tO29]; rfl
theorem zero29 : aZero prog 29 = some (.nilsl) := by kernel_rfl
theorem alloc29 (σ : Sto) : aAlloc prog σ 29 = aNewVar σ (.nilsl) := alloc_eq (by kernel_rfl) σ
theorem sto29 (σ : Sto) (v p : AV) : aStore prog σ 29 v p = aStoreN σ 1 v p := aStore_eq (by kernel_rfl) σ v p
theorem len29 (σ : Sto) (x : AV) : aLen prog σ 29 x = aLenSl x := aLen_sl (by kernel_rfl) σ x
theorem idx29 (x i : AV) : aIndexAddr prog 29 x i = aAt 4 x i := aIndexAddr_eq (by kernel_rfl) x i
theorem app29 (σ : Sto) (u : TypeId) (nl : Bool) (es : List AV) (k : Nat) (x : AV) : aAppendO prog σ 29 u nl 4 es k x = (aSrcE prog u 4 x).bind fun ds => appAt σ nl 4 40 es k ds σ[k]? := aAppendO_eq (by kernel_rfl) σ nl es k x
theorem src29 (x : AV) : aSrcE prog 29 4 x = aSrcS 4 x := aSrcE_sl (by kernel_rfl) 4 x
theorem nil29 (σ : Sto) (u : TypeId) (y : AV) : aApp prog false σ 29 u .nilsl y = aAppendO prog (σ ++ [.cap 0 4]) 29 u true 4 [] σ.length y := aApp_nil (by kernel_rfl) (by decide) σ u y
theorem row29 {len : Nat} {parts : List (Nat × AV)} (hl : len * 4 ≤ 16777216) (hp : 0 < len) (hi : parts.map (·.1) = List.range len) (hv : ∀ p ∈ parts, p.2.cells.length = 4 ∧ p.2.cells.all AV.one = true) : aBuildRow prog 29 len parts = some (.sl 4 (parts.map (·.2))) := aBuildRow_eq (by kernel_rfl) hl hp hi hv
theorem row1_29 (σ : Sto) (v : AV) (h1 : v.cells.length = 4) (h2 : v.cells.all AV.one = true) : aRow prog false σ 29 1 [(0, v)] = some (.sl 4 [v], σ) := aRow_sl (by kernel_rfl) (by decide) (row29 (len := 1) (parts := [(0, v)]) (by decide) (by decide) rfl (by intro p hp; simp only [List.mem_singleton] at hp; subst hp; exact ⟨h1, h2⟩)) σ
theorem tM29 : tMk prog 29 = some ([.val (.string ⟨#[]⟩), .val (.int .i64 0), .val (.int .i64 0), .val (.int .i64 0)], 4, 40) := by kernel_rfl
theorem mk29 (σ : Sto) (k k1 : IntKind) (n : Int) : aMakeSlice prog σ 29 (.val (.int k n)) (.val (.int k1 n)) = if 0 ≤ n ∧ fits n.toNat 40 = true then some (.osl σ.length 0 n.toNat 4, σ ++ [.cells (aZeros [.val (.string ⟨#[]⟩), .val (.int .i64 0), .val (.int .i64 0), .val (.int .i64 0)] (n.toNat * 4))]) else none := aMakeSlice_eq tM29 σ k k1 n
theorem rowm29 (σ : Sto) (v : AV) (h0 : v.cells.length = 4) (h1 : v.cells.all AV.one = true) : aRow prog true σ 29 1 [(0, v)] = some (.osl σ.length 0 1 4, σ ++ [.cells v.cells]) := aRow_live tM29 (by decide) σ v h0 h1
theorem row0_29 (σ : Sto) : aRow prog false σ 29 0 [] = some (.slo false 4 [] σ.length, σ ++ [.cap 0 4]) := aRow_zero (by kernel_rfl) (by decide) σ
theorem tO30 : tAgg prog 30 = some none := by kernel_rfl
theorem get30 (c : AV) (cs : List AV) : aGet prog 30 (c :: cs) = some c := by rw [aGet_one tO30]; rfl
theorem zero30 : aZero prog 30 = some (.nilsl) := by kernel_rfl
theorem alloc30 (σ : Sto) : aAlloc prog σ 30 = aNewVar σ (.nilsl) := alloc_eq (by kernel_rfl) σ
theorem sto30 (σ : Sto) (v p : AV) : aStore prog σ 30 v p = aStoreN σ 1 v p := aStore_eq (by kernel_rfl) σ v p
theorem len30 (σ : Sto) (x : AV) : aLen prog σ 30 x = aLenSl x := aLen_sl (by kernel_rfl) σ x
theorem idx30 (x i : AV) : aIndexAddr prog 30 x i = aAt 2 x i := aIndexAddr_eq (by kernel_rfl) x i
theorem app30 (σ : Sto) (u : TypeId) (nl : Bool) (es : List AV) (k : Nat) (x : AV) : aAppendO prog σ 30 u nl 2 es k x = (aSrcE prog u 2 x).bind fun ds => appAt σ nl 2 16 es k ds σ[k]? := aAppendO_eq (by kernel_rfl) σ nl es k x
theorem src30 (x : AV) : aSrcE prog 30 2 x = aSrcS 2 x := aSrcE_sl (by kernel_rfl) 2 x
theorem nil30 (σ : Sto) (u : TypeId) (y : AV) : aApp prog false σ 30 u .nilsl y = aAppendO prog (σ ++ [.cap 0 2]) 30 u true 2 [] σ.length y := aApp_nil (by kernel_rfl) (by decide) σ u y
theorem row30 {len : Nat} {parts : List (Nat × AV)} (hl : len * 2 ≤ 16777216) (hp : 0 < len) (hi : parts.map (·.1) = List.range len) (hv : ∀ p ∈ parts, p.2.cells.length = 2 ∧ p.2.cells.all AV.one = true) : aBuildRow prog 30 len parts = some (.sl 2 (parts.map (·.2))) := aBuildRow_eq (by kernel_rfl) hl hp hi hv
theorem row1_30 (σ : Sto) (v : AV) (h1 : v.cells.length = 2) (h2 : v.cells.all AV.one = true) : aRow prog false σ 30 1 [(0, v)] = some (.sl 2 [v], σ) := aRow_sl (by kernel_rfl) (by decide) (row30 (len := 1) (parts := [(0, v)]) (by decide) (by decide) rfl (by intro p hp; simp only [List.mem_singleton] at hp; subst hp; exact ⟨h1, h2⟩)) σ
theorem tM30 : tMk prog 30 = some ([.val (.int .i64 0), .val (.int .i64 0)], 2, 16) := by kernel_rfl
theorem mk30 (σ : Sto) (k k1 : IntKind) (n : Int) : aMakeSlice prog σ 30 (.val (.int k n)) (.val (.int k1 n)) = if 0 ≤ n ∧ fits n.toNat 16 = true then some (.osl σ.length 0 n.toNat 2, σ ++ [.cells (aZeros [.val (.int .i64 0), .val (.int .i64 0)] (n.toNat * 2))]) else none := aMakeSlice_eq tM30 σ k k1 n
theorem rowm30 (σ : Sto) (v : AV) (h0 : v.cells.length = 2) (h1 : v.cells.all AV.one = true) : aRow prog true σ 30 1 [(0, v)] = some (.osl σ.length 0 1 2, σ ++ [.cells v.cells]) := aRow_live tM30 (by decide) σ v h0 h1
theorem row0_30 (σ : Sto) : aRow prog false σ 30 0 [] = some (.slo false 2 [] σ.length, σ ++ [.cap 0 2]) := aRow_zero (by kernel_rfl) (by decide) σ
theorem tA32 : tAgg prog 32 = some (some 7) := by kernel_rfl
theorem get32 (a0 a1 a2 a3 a4 a5 a6 : AV) (l : List AV) : aGet prog 32 (a0 :: a1 :: a2 :: a3 :: a4 :: a5 :: a6 :: l) = some (.agg [a0, a1, a2, a3, a4, a5, a6]) := by rw [aGet_many tA32, if_pos (by simp)]; rfl
theorem fA32_0 (p : AV) : aFieldAddr prog 32 0 p = aOff 0 p := aFieldAddr_eq (t := 3) (by kernel_rfl) p
theorem fd32_0 (cs : List AV) : aField prog 32 0 (.agg cs) = cs[0]? := aField_eq (t := 3) (r := none) (by kernel_rfl) (by kernel_rfl) cs
theorem fA32_1 (p : AV) : aFieldAddr prog 32 1 p = aOff 1 p := aFieldAddr_eq (t := 3) (by kernel_rfl) p
theorem fd32_1 (cs : List AV) : aField prog 32 1 (.agg cs) = cs[1]? := aField_eq (t := 3) (r := none) (by kernel_rfl) (by kernel_rfl) cs
theorem fA32_2 (p : AV) : aFieldAddr prog 32 2 p = aOff 2 p := aFieldAddr_eq (t := 3) (by kernel_rfl) p
theorem fd32_2 (cs : List AV) : aField prog 32 2 (.agg cs) = cs[2]? := aField_eq (t := 3) (r := none) (by kernel_rfl) (by kernel_rfl) cs
theorem fA32_3 (p : AV) : aFieldAddr prog 32 3 p = aOff 3 p := aFieldAddr_eq (t := 2) (by kernel_rfl) p
theorem fd32_3 (cs : List AV) : aField prog 32 3 (.agg cs) = cs[3]? := aField_eq (t := 2) (r := none) (by kernel_rfl) (by kernel_rfl) cs
theorem fA32_4 (p : AV) : aFieldAddr prog 32 4 p = aOff 4 p := aFieldAddr_eq (t := 21) (by kernel_rfl) p
theorem fd32_4 (cs : List AV) : aField prog 32 4 (.agg cs) = cs[4]? := aField_eq (t := 21) (r := none) (by kernel_rfl) (by kernel_rfl) cs
theorem fA32_5 (p : AV) : aFieldAddr prog 32 5 p = aOff 5 p := aFieldAddr_eq (t := 21) (by kernel_rfl) p
theorem fd32_5 (cs : List AV) : aField prog 32 5 (.agg cs) = cs[5]? := aField_eq (t := 21) (r := none) (by kernel_rfl) (by kernel_rfl) cs
theorem fA32_6 (p : AV) : aFieldAddr prog 32 6 p = aOff 6 p := aFieldAddr_eq (t := 30) (by kernel_rfl) p
theorem fd32_6 (cs : List AV) : aField prog 32 6 (.agg cs) = cs[6]? := aField_eq (t := 30) (r := none) (by kernel_rfl) (by kernel_rfl) cs
theorem bld32 (parts : List (Nat × AV)) : aBuild prog 32 parts = (aFill (fun j => [(0, 1), (1, 1), (2, 1), (3, 1), (4, 1), (5, 1), (6, 1)][j]?) [.val (.int .i64 0), .val (.int .i64 0), .val (.int .i64 0), .val (.int .i64 0), .val (.int .i32 0), .val (.int .i32 0), .nilsl] parts).map .agg := aBuild_eq (by kernel_rfl) parts
theorem zero32 : aZero prog 32 = some (.agg [.val (.int .i64 0), .val (.int .i64 0), .val (.int .i64 0), .val (.int .i64 0), .val (.int .i32 0), .val (.int .i32 0), .nilsl]) := by kernel_rfl
theorem alloc32 (σ : Sto) : aAlloc prog σ 32 = aNewVar σ (.agg [.val (.int .i64 0), .val (.int .i64 0), .val (.int .i64 0), .val (.int .i64 0), .val (.int .i32 0), .val (.int .i32 0), .nilsl]) := alloc_eq (by kernel_rfl) σ
theorem sto32 (σ : Sto) (v p : AV) : aStore prog σ 32 v p = aStoreN σ 7 v p := aStore_eq (by kernel_rfl) σ v p
theorem tO33 : tAgg prog 33 = some none := by kernel_rfl
theorem get33 (c : AV) (cs : List AV) : aGet prog 33 (c :: cs) = some c := by rw [aGet_one tO33]; rfl
theorem zero33 : aZero prog 33 = some (.nilsl) := by kernel_rfl
theorem alloc33 (σ : Sto) : aAlloc prog σ 33 = aNewVar σ (.nilsl) := alloc_eq (by kernel_rfl) σ
theorem sto33 (σ : Sto) (v p : AV) : aStore prog σ 33 v p = aStoreN σ 1 v p := aStore_eq (by kernel_rfl) σ v p
theorem len33 (σ : Sto) (x : AV) : aLen prog σ 33 x = aLenSl x := aLen_sl (by kernel_rfl) σ x
theorem idx33 (x i : AV) : aIndexAddr prog 33 x i = aAt 7 x i := aIndexAddr_eq (by kernel_rfl) x i
theorem app33 (σ : Sto) (u : TypeId) (nl : Bool) (es : List AV) (k : Nat) (x : AV) : aAppendO prog σ 33 u nl 7 es k x = (aSrcE prog u 7 x).bind fun ds => appAt σ nl 7 64 es k ds σ[k]? := aAppendO_eq (by kernel_rfl) σ nl es k x
theorem src33 (x : AV) : aSrcE prog 33 7 x = aSrcS 7 x := aSrcE_sl (by kernel_rfl) 7 x
theorem nil33 (σ : Sto) (u : TypeId) (y : AV) : aApp prog false σ 33 u .nilsl y = aAppendO prog (σ ++ [.cap 0 7]) 33 u true 7 [] σ.length y := aApp_nil (by kernel_rfl) (by decide) σ u y
theorem row33 {len : Nat} {parts : List (Nat × AV)} (hl : len * 7 ≤ 16777216) (hp : 0 < len) (hi : parts.map (·.1) = List.range len) (hv : ∀ p ∈ parts, p.2.cells.length = 7 ∧ p.2.cells.all AV.one = true) : aBuildRow prog 33 len parts = some (.sl 7 (parts.map (·.2))) := aBuildRow_eq (by kernel_rfl) hl hp hi hv
theorem row1_33 (σ : Sto) (v : AV) (h1 : v.cells.length = 7) (h2 : v.cells.all AV.one = true) : aRow prog false σ 33 1 [(0, v)] = some (.sl 7 [v], σ) := aRow_sl (by kernel_rfl) (by decide) (row33 (len := 1) (parts := [(0, v)]) (by decide) (by decide) rfl (by intro p hp; simp only [List.mem_singleton] at hp; subst hp; exact ⟨h1, h2⟩)) σ
theorem tM33 : tMk prog 33 = some ([.val (.int .i64 0), .val (.int .i64 0), .val (.int .i64 0), .val (.int .i64 0), .val (.int .i32 0), .val (.int .i32 0), .nilsl], 7, 64) := by kernel_rfl
theorem mk33 (σ : Sto) (k k1 : IntKind) (n : Int) : aMakeSlice prog σ 33 (.val (.int k n)) (.val (.int k1 n)) = if 0 ≤ n ∧ fits n.toNat 64 = true then some (.osl σ.length 0 n.toNat 7, σ ++ [.cells (aZeros [.val (.int .i64 0), .val (.int .i64 0), .val (.int .i64 0), .val (.int .i64 0), .val (.int .i32 0), .val (.int .i32 0), .nilsl] (n.toNat * 7))]) else none := aMakeSlice_eq tM33 σ k k1 n
theorem rowm33 (σ : Sto) (v : AV) (h0 : v.cells.length = 7) (h1 : v.cells.all AV.one = true) : aRow prog true σ 33 1 [(0, v)] = some (.osl σ.length 0 1 7, σ ++ [.cells v.cells]) := aRow_live tM33 (by decide) σ v h0 h1
theorem row0_33 (σ : Sto) : aRow prog false σ 33 0 [] = some (.slo false 7 [] σ.length, σ ++ [.cap 0 7]) := aRow_zero (by kernel_rfl) (by decide) σ
theorem tO34 : tAgg prog 34 = some none := by kernel_rfl
theorem get34 (c : AV) (cs : List AV) : aGet prog 34 (c :: cs) = some c := by rw [aGet_one tO34]; rfl
theorem zero34 : aZero prog 34 = some (.nilsl) := by kernel_rfl
theorem alloc34 (σ : Sto) : aAlloc prog σ 34 = aNewVar σ (.nilsl) := alloc_eq (by kernel_rfl) σ
theorem sto34 (σ : Sto) (v p : AV) : aStore prog σ 34 v p = aStoreN σ 1 v p := aStore_eq (by kernel_rfl) σ v p
theorem len34 (σ : Sto) (x : AV) : aLen prog σ 34 x = aLenSl x := aLen_sl (by kernel_rfl) σ x
theorem idx34 (x i : AV) : aIndexAddr prog 34 x i = aAt 2 x i := aIndexAddr_eq (by kernel_rfl) x i
theorem app34 (σ : Sto) (u : TypeId) (nl : Bool) (es : List AV) (k : Nat) (x : AV) : aAppendO prog σ 34 u nl 2 es k x = (aSrcE prog u 2 x).bind fun ds => appAt σ nl 2 24 es k ds σ[k]? := aAppendO_eq (by kernel_rfl) σ nl es k x
theorem src34 (x : AV) : aSrcE prog 34 2 x = aSrcS 2 x := aSrcE_sl (by kernel_rfl) 2 x
theorem nil34 (σ : Sto) (u : TypeId) (y : AV) : aApp prog false σ 34 u .nilsl y = aAppendO prog (σ ++ [.cap 0 2]) 34 u true 2 [] σ.length y := aApp_nil (by kernel_rfl) (by decide) σ u y
theorem row34 {len : Nat} {parts : List (Nat × AV)} (hl : len * 2 ≤ 16777216) (hp : 0 < len) (hi : parts.map (·.1) = List.range len) (hv : ∀ p ∈ parts, p.2.cells.length = 2 ∧ p.2.cells.all AV.one = true) : aBuildRow prog 34 len parts = some (.sl 2 (parts.map (·.2))) := aBuildRow_eq (by kernel_rfl) hl hp hi hv
theorem row1_34 (σ : Sto) (v : AV) (h1 : v.cells.length = 2) (h2 : v.cells.all AV.one = true) : aRow prog false σ 34 1 [(0, v)] = some (.sl 2 [v], σ) := aRow_sl (by kernel_rfl) (by decide) (row34 (len := 1) (parts := [(0, v)]) (by decide) (by decide) rfl (by intro p hp; simp only [List.mem_singleton] at hp; subst hp; exact ⟨h1, h2⟩)) σ
theorem tM34 : tMk prog 34 = some ([.val (.string ⟨#[]⟩), .val (.int .i64 0)], 2, 24) := by kernel_rfl
theorem mk34 (σ : Sto) (k k1 : IntKind) (n : Int) : aMakeSlice prog σ 34 (.val (.int k n)) (.val (.int k1 n)) = if 0 ≤ n ∧ fits n.toNat 24 = true then some (.osl σ.length 0 n.toNat 2, σ ++ [.cells (aZeros [.val (.string ⟨#[]⟩), .val (.int .i64 0)] (n.toNat * 2))]) else none := aMakeSlice_eq tM34 σ k k1 n
theorem rowm34 (σ : Sto) (v : AV) (h0 : v.cells.length = 2) (h1 : v.cells.all AV.one = true) : aRow prog true σ 34 1 [(0, v)] = some (.osl σ.length 0 1 2, σ ++ [.cells v.cells]) := aRow_live tM34 (by decide) σ v h0 h1
theorem row0_34 (σ : Sto) : aRow prog false σ 34 0 [] = some (.slo false 2 [] σ.length, σ ++ [.cap 0 2]) := aRow_zero (by kernel_rfl) (by decide) σ
theorem tA36 : tAgg prog 36 = some (some 4) := by kernel_rfl
theorem get36 (a0 a1 a2 a3 : AV) (l : List AV) : aGet prog 36 (a0 :: a1 :: a2 :: a3 :: l) = some (.agg [a0, a1, a2, a3]) := by rw [aGet_many tA36, if_pos (by simp)]; rfl
theorem fA36_0 (p : AV) : aFieldAddr prog 36 0 p = aOff 0 p := aFieldAddr_eq (t := 9) (by kernel_rfl) p
theorem fd36_0 (cs : List AV) : aField prog 36 0 (.agg cs) = cs[0]? := aField_eq (t := 9) (r := none) (by kernel_rfl) (by kernel_rfl) cs
theorem fA36_1 (p : AV) : aFieldAddr prog 36 1 p = aOff 1 p := aFieldAddr_eq (t := 34) (by kernel_rfl) p
theorem fd36_1 (cs : List AV) : aField prog 36 1 (.agg cs) = cs[1]? := aField_eq (t := 34) (r := none) (by kernel_rfl) (by kernel_rfl) cs
theorem fA36_2 (p : AV) : aFieldAddr prog 36 2 p = aOff 2 p := aFieldAddr_eq (t := 29) (by kernel_rfl) p
theorem fd36_2 (cs : List AV) : aField prog 36 2 (.agg cs) = cs[2]? := aField_eq (t := 29) (r := none) (by kernel_rfl) (by kernel_rfl) cs
theorem fA36_3 (p : AV) : aFieldAddr prog 36 3 p = aOff 3 p := aFieldAddr_eq (t := 33) (by kernel_rfl) p
theorem fd36_3 (cs : List AV) : aField prog 36 3 (.agg cs) = cs[3]? := aField_eq (t := 33) (r := none) (by kernel_rfl) (by kernel_rfl) cs
theorem bld36 (parts : List (Nat × AV)) : aBuild prog 36 parts = (aFill (fun j => [(0, 1), (1, 1), (2, 1), (3, 1)][j]?) [.val (.string ⟨#[]⟩), .nilsl, .nilsl, .nilsl] parts).map .agg := aBuild_eq (by kernel_rfl) parts
theorem zero36 : aZero prog 36 = some (.agg [.val (.string ⟨#[]⟩), .nilsl, .nilsl, .nilsl]) := by kernel_rfl
theorem alloc36 (σ : Sto) : aAlloc prog σ 36 = aNewVar σ (.agg [.val (.string ⟨#[]⟩), .nilsl, .nilsl, .nilsl]) := alloc_eq (by kernel_rfl) σ
theorem sto36 (σ : Sto) (v p : AV) : aStore prog σ 36 v p = aStoreN σ 4 v p := aStore_eq (by kernel_rfl) σ v p
theorem tO37 : tAgg prog 37 = some none := by kernel_rfl
theorem get37 (c : AV) (cs : List AV) : aGet prog 37 (c :: cs) = some c := by rw [aGet_one tO37]; rfl
theorem zero37 : aZero prog 37 = some (.nilsl) := by kernel_rfl
theorem alloc37 (σ : Sto) : aAlloc prog σ 37 = aNewVar σ (.nilsl) := alloc_eq (by kernel_rfl) σ
theorem sto37 (σ : Sto) (v p : AV) : aStore prog σ 37 v p = aStoreN σ 1 v p := aStore_eq (by kernel_rfl) σ v p
theorem len37 (σ : Sto) (x : AV) : aLen prog σ 37 x = aLenSl x := aLen_sl (by kernel_rfl) σ x
theorem idx37 (x i : AV) : aIndexAddr prog 37 x i = aAt 4 x i := aIndexAddr_eq (by kernel_rfl) x i
theorem app37 (σ : Sto) (u : TypeId) (nl : Bool) (es : List AV) (k : Nat) (x : AV) : aAppendO prog σ 37 u nl 4 es k x = (aSrcE prog u 4 x).bind fun ds => appAt σ nl 4 88 es k ds σ[k]? := aAppendO_eq (by kernel_rfl) σ nl es k x
theorem src37 (x : AV) : aSrcE prog 37 4 x = aSrcS 4 x := aSrcE_sl (by kernel_rfl) 4 x
theorem nil37 (σ : Sto) (u : TypeId) (y : AV) : aApp prog false σ 37 u .nilsl y = aAppendO prog (σ ++ [.cap 0 4]) 37 u true 4 [] σ.length y := aApp_nil (by kernel_rfl) (by decide) σ u y
theorem row37 {len : Nat} {parts : List (Nat × AV)} (hl : len * 4 ≤ 16777216) (hp : 0 < len) (hi : parts.map (·.1) = List.range len) (hv : ∀ p ∈ parts, p.2.cells.length = 4 ∧ p.2.cells.all AV.one = true) : aBuildRow prog 37 len parts = some (.sl 4 (parts.map (·.2))) := aBuildRow_eq (by kernel_rfl) hl hp hi hv
theorem row1_37 (σ : Sto) (v : AV) (h1 : v.cells.length = 4) (h2 : v.cells.all AV.one = true) : aRow prog false σ 37 1 [(0, v)] = some (.sl 4 [v], σ) := aRow_sl (by kernel_rfl) (by decide) (row37 (len := 1) (parts := [(0, v)]) (by decide) (by decide) rfl (by intro p hp; simp only [List.mem_singleton] at hp; subst hp; exact ⟨h1, h2⟩)) σ
theorem tM37 : tMk prog 37 = some ([.val (.string ⟨#[]⟩), .nilsl, .nilsl, .nilsl], 4, 88) := by kernel_rfl
theorem mk37 (σ : Sto) (k k1 : IntKind) (n : Int) : aMakeSlice prog σ 37 (.val (.int k n)) (.val (.int k1 n)) = if 0 ≤ n ∧ fits n.toNat 88 = true then some (.osl σ.length 0 n.toNat 4, σ ++ [.cells (aZeros [.val (.string ⟨#[]⟩), .nilsl, .nilsl, .nilsl] (n.toNat * 4))]) else none := aMakeSlice_eq tM37 σ k k1 n
theorem rowm37 (σ : Sto) (v : AV) (h0 : v.cells.length = 4) (h1 : v.cells.all AV.one = true) : aRow prog true σ 37 1 [(0, v)] = some (.osl σ.length 0 1 4, σ ++ [.cells v.cells]) := aRow_live tM37 (by decide) σ v h0 h1
theorem row0_37 (σ : Sto) : aRow prog false σ 37 0 [] = some (.slo false 4 [] σ.length, σ ++ [.cap 0 4]) := aRow_zero (by kernel_rfl) (by decide) σ
theorem tA39 : tAgg prog 39 = some (some 1) := by kernel_rfl
theorem get39 (a0 : AV) (l : List AV) : aGet prog 39 (a0 :: l) = some (.agg [a0]) := by rw [aGet_many tA39, if_pos (by simp)]; rfl
theorem fA39_0 (p : AV) : aFieldAddr prog 39 0 p = aOff 0 p := aFieldAddr_eq (t := 37) (by kernel_rfl) p
theorem fd39_0 (cs : List AV) : aField prog 39 0 (.agg cs) = cs[0]? := aField_eq (t := 37) (r := none) (by kernel_rfl) (by kernel_rfl) cs
theorem bld39 (parts : List (Nat × AV)) : aBuild prog 39 parts = (aFill (fun j => [(0, 1)][j]?) [.nilsl] parts).map .agg := aBuild_eq (by kernel_rfl) parts
theorem zero39 : aZero prog 39 = some (.agg [.nilsl]) := by kernel_rfl
theorem alloc39 (σ : Sto) : aAlloc prog σ 39 = aNewVar σ (.agg [.nilsl]) := alloc_eq (by kernel_rfl) σ
theorem sto39 (σ : Sto) (v p : AV) : aStore prog σ 39 v p = aStoreN σ 1 v p := aStore_eq (by kernel_rfl) σ v p
theorem tO41 : tAgg prog 41 = some none := by kernel_rfl
theorem get41 (c : AV) (cs : List AV) : aGet prog 41 (c :: cs) = some c := by rw [aGet_one tO41]; rfl
theorem zero41 : aZero prog 41 = some (.val (.int .i64 0)) := by kernel_rfl
theorem alloc41 (σ : Sto) : aAlloc prog σ 41 = aNewVar σ (.val (.int .i64 0)) := alloc_eq (by kernel_rfl) σ
theorem sto41 (σ : Sto) (v p : AV) : aStore prog σ 41 v p = aStoreN σ 1 v p := aStore_eq (by kernel_rfl) σ v p
theorem tO43 : tAgg prog 43 = some none := by kernel_rfl
theorem get43 (c : AV) (cs : List AV) : aGet prog 43 (c :: cs) = some c := by rw [aGet_one tO43]; rfl
theorem zero43 : aZero prog 43 = some (.val (.pointer none)) := by kernel_rfl
theorem alloc43 (σ : Sto) : aAlloc prog σ 43 = aNewVar σ (.val (.pointer none)) := alloc_eq (by kernel_rfl) σ
theorem sto43 (σ : Sto) (v p : AV) : aStore prog σ 43 v p = aStoreN σ 1 v p := aStore_eq (by kernel_rfl) σ v p
theorem ptr43 (o off : Nat) : aBin prog .eql 43 (.ref o off) (.val (.pointer none)) = some (.val (.bool false)) := bin_ptr (by kernel_rfl) o off
theorem ptrn43 (o off : Nat) : aBin prog .neq 43 (.ref o off) (.val (.pointer none)) = some (.val (.bool true)) := bin_ptrn (by kernel_rfl) o off
theorem row48 {len : Nat} {parts : List (Nat × AV)} (hl : len * 4 ≤ 16777216) (hp : 0 < len) (hi : parts.map (·.1) = List.range len) (hv : ∀ p ∈ parts, p.2.cells.length = 4 ∧ p.2.cells.all AV.one = true) : aBuildRow prog 48 len parts = some (.sl 4 (parts.map (·.2))) := aBuildRow_eq (by kernel_rfl) hl hp hi hv
theorem row1_48 (σ : Sto) (v : AV) (h1 : v.cells.length = 4) (h2 : v.cells.all AV.one = true) : aRow prog false σ 48 1 [(0, v)] = some (.sl 4 [v], σ) := aRow_sl (by kernel_rfl) (by decide) (row48 (len := 1) (parts := [(0, v)]) (by decide) (by decide) rfl (by intro p hp; simp only [List.mem_singleton] at hp; subst hp; exact ⟨h1, h2⟩)) σ
theorem row0_48 (σ : Sto) : aRow prog false σ 48 0 [] = some (.slo false 4 [] σ.length, σ ++ [.cap 0 4]) := aRow_zero (by kernel_rfl) (by decide) σ
theorem tO55 : tAgg prog 55 = some none := by kernel_rfl
theorem get55 (c : AV) (cs : List AV) : aGet prog 55 (c :: cs) = some c := by rw [aGet_one tO55]; rfl
theorem zero55 : aZero prog 55 = some (.nilsl) := by kernel_rfl
theorem alloc55 (σ : Sto) : aAlloc prog σ 55 = aNewVar σ (.nilsl) := alloc_eq (by kernel_rfl) σ
theorem sto55 (σ : Sto) (v p : AV) : aStore prog σ 55 v p = aStoreN σ 1 v p := aStore_eq (by kernel_rfl) σ v p
theorem len55 (σ : Sto) (x : AV) : aLen prog σ 55 x = aLenSl x := aLen_sl (by kernel_rfl) σ x
theorem idx55 (x i : AV) : aIndexAddr prog 55 x i = aAt 1 x i := aIndexAddr_eq (by kernel_rfl) x i
theorem app55 (σ : Sto) (u : TypeId) (nl : Bool) (es : List AV) (k : Nat) (x : AV) : aAppendO prog σ 55 u nl 1 es k x = (aSrcE prog u 1 x).bind fun ds => appAt σ nl 1 8 es k ds σ[k]? := aAppendO_eq (by kernel_rfl) σ nl es k x
theorem src55 (x : AV) : aSrcE prog 55 1 x = aSrcS 1 x := aSrcE_sl (by kernel_rfl) 1 x
theorem nil55 (σ : Sto) (u : TypeId) (y : AV) : aApp prog false σ 55 u .nilsl y = aAppendO prog (σ ++ [.cap 0 1]) 55 u true 1 [] σ.length y := aApp_nil (by kernel_rfl) (by decide) σ u y
theorem row55 {len : Nat} {parts : List (Nat × AV)} (hl : len * 1 ≤ 16777216) (hp : 0 < len) (hi : parts.map (·.1) = List.range len) (hv : ∀ p ∈ parts, p.2.cells.length = 1 ∧ p.2.cells.all AV.one = true) : aBuildRow prog 55 len parts = some (.sl 1 (parts.map (·.2))) := aBuildRow_eq (by kernel_rfl) hl hp hi hv
theorem row1_55 (σ : Sto) (v : AV) (h1 : v.cells.length = 1) (h2 : v.cells.all AV.one = true) : aRow prog false σ 55 1 [(0, v)] = some (.sl 1 [v], σ) := aRow_sl (by kernel_rfl) (by decide) (row55 (len := 1) (parts := [(0, v)]) (by decide) (by decide) rfl (by intro p hp; simp only [List.mem_singleton] at hp; subst hp; exact ⟨h1, h2⟩)) σ
theorem tM55 : tMk prog 55 = some ([.val (.int .i64 0)], 1, 8) := by kernel_rfl
theorem mk55 (σ : Sto) (k k1 : IntKind) (n : Int) : aMakeSlice prog σ 55 (.val (.int k n)) (.val (.int k1 n)) = if 0 ≤ n ∧ fits n.toNat 8 = true then some (.osl σ.length 0 n.toNat 1, σ ++ [.cells (aZeros [.val (.int .i64 0)] (n.toNat * 1))]) else none := aMakeSlice_eq tM55 σ k k1 n
theorem rowm55 (σ : Sto) (v : AV) (h0 : v.cells.length = 1) (h1 : v.cells.all AV.one = true) : aRow prog true σ 55 1 [(0, v)] = some (.osl σ.length 0 1 1, σ ++ [.cells v.cells]) := aRow_live tM55 (by decide) σ v h0 h1
theorem row0_55 (σ : Sto) : aRow prog false σ 55 0 [] = some (.slo false 1 [] σ.length, σ ++ [.cap 0 1]) := aRow_zero (by kernel_rfl) (by decide) σ
theorem row58 {len : Nat} {parts : List (Nat × AV)} (hl : len * 2 ≤ 16777216) (hp : 0 < len) (hi : parts.map (·.1) = List.range len) (hv : ∀ p ∈ parts, p.2.cells.length = 2 ∧ p.2.cells.all AV.one = true) : aBuildRow prog 58 len parts = some (.sl 2 (parts.map (·.2))) := aBuildRow_eq (by kernel_rfl) hl hp hi hv
theorem row1_58 (σ : Sto) (v : AV) (h1 : v.cells.length = 2) (h2 : v.cells.all AV.one = true) : aRow prog false σ 58 1 [(0, v)] = some (.sl 2 [v], σ) := aRow_sl (by kernel_rfl) (by decide) (row58 (len := 1) (parts := [(0, v)]) (by decide) (by decide) rfl (by intro p hp; simp only [List.mem_singleton] at hp; subst hp; exact ⟨h1, h2⟩)) σ
theorem row0_58 (σ : Sto) : aRow prog false σ 58 0 [] = some (.slo false 2 [] σ.length, σ ++ [.cap 0 2]) := aRow_zero (by kernel_rfl) (by decide) σ
theorem row59 {len : Nat} {parts : List (Nat × AV)} (hl : len * 4 ≤ 16777216) (hp : 0 < len) (hi : parts.map (·.1) = List.range len) (hv : ∀ p ∈ parts, p.2.cells.length = 4 ∧ p.2.cells.all AV.one = true) : aBuildRow prog 59 len parts = some (.sl 4 (parts.map (·.2))) := aBuildRow_eq (by kernel_rfl) hl hp hi hv
theorem row1_59 (σ : Sto) (v : AV) (h1 : v.cells.length = 4) (h2 : v.cells.all AV.one = true) : aRow prog false σ 59 1 [(0, v)] = some (.sl 4 [v], σ) := aRow_sl (by kernel_rfl) (by decide) (row59 (len := 1) (parts := [(0, v)]) (by decide) (by decide) rfl (by intro p hp; simp only [List.mem_singleton] at hp; subst hp; exact ⟨h1, h2⟩)) σ
theorem row0_59 (σ : Sto) : aRow prog false σ 59 0 [] = some (.slo false 4 [] σ.length, σ ++ [.cap 0 4]) := aRow_zero (by kernel_rfl) (by decide) σ
theorem row60 {len : Nat} {parts : List (Nat × AV)} (hl : len * 7 ≤ 16777216) (hp : 0 < len) (hi : parts.map (·.1) = List.range len) (hv : ∀ p ∈ parts, p.2.cells.length = 7 ∧ p.2.cells.all AV.one = true) : aBuildRow prog 60 len parts = some (.sl 7 (parts.map (·.2))) := aBuildRow_eq (by kernel_rfl) hl hp hi hv
theorem row1_60 (σ : Sto) (v : AV) (h1 : v.cells.length = 7) (h2 : v.cells.all AV.one = true) : aRow prog false σ 60 1 [(0, v)] = some (.sl 7 [v], σ) := aRow_sl (by kernel_rfl) (by decide) (row60 (len := 1) (parts := [(0, v)]) (by decide) (by decide) rfl (by intro p hp; simp only [List.mem_singleton] at hp; subst hp; exact ⟨h1, h2⟩)) σ
theorem row0_60 (σ : Sto) : aRow prog false σ 60 0 [] = some (.slo false 7 [] σ.length, σ ++ [.cap 0 7]) := aRow_zero (by kernel_rfl) (by decide) σ
theorem row74 {len : Nat} {parts : List (Nat × AV)} (hl : len * 1 ≤ 16777216) (hp : 0 < len) (hi : parts.map (·.1) = List.range len) (hv : ∀ p ∈ parts, p.2.cells.length = 1 ∧ p.2.cells.all AV.one = true) : aBuildRow prog 74 len parts = some (.sl 1 (parts.map (·.2))) := aBuildRow_eq (by kernel_rfl) hl hp hi hv
theorem row1_74 (σ : Sto) (v : AV) (h1 : v.cells.length = 1) (h2 : v.cells.all AV.one = true) : aRow prog false σ 74 1 [(0, v)] = some (.sl 1 [v], σ) := aRow_sl (by kernel_rfl) (by decide) (row74 (len := 1) (parts := [(0, v)]) (by decide) (by decide) rfl (by intro p hp; simp only [List.mem_singleton] at hp; subst hp; exact ⟨h1, h2⟩)) σ
theorem row0_74 (σ : Sto) : aRow prog false σ 74 0 [] = some (.slo false 1 [] σ.length, σ ++ [.cap 0 1]) := aRow_zero (by kernel_rfl) (by decide) σ
theorem row76 {len : Nat} {parts : List (Nat × AV)} (hl : len * 1 ≤ 16777216) (hp : 0 < len) (hi : parts.map (·.1) = List.range len) (hv : ∀ p ∈ parts, p.2.cells.length = 1 ∧ p.2.cells.all AV.one = true) : aBuildRow prog 76 len parts = some (.sl 1 (parts.map (·.2))) := aBuildRow_eq (by kernel_rfl) hl hp hi hv
theorem row1_76 (σ : Sto) (v : AV) (h1 : v.cells.length = 1) (h2 : v.cells.all AV.one = true) : aRow prog false σ 76 1 [(0, v)] = some (.sl 1 [v], σ) := aRow_sl (by kernel_rfl) (by decide) (row76 (len := 1) (parts := [(0, v)]) (by decide) (by decide) rfl (by intro p hp; simp only [List.mem_singleton] at hp; subst hp; exact ⟨h1, h2⟩)) σ
theorem row0_76 (σ : Sto) : aRow prog false σ 76 0 [] = some (.slo false 1 [] σ.length, σ ++ [.cap 0 1]) := aRow_zero (by kernel_rfl) (by decide) σ
theorem tO82 : tAgg prog 82 = some none := by kernel_rfl
theorem get82 (c : AV) (cs : List AV) : aGet prog 82 (c :: cs) = some c := by rw [aGet_one tO82]; rfl
theorem zero82 : aZero prog 82 = some (.nilsl) := by kernel_rfl
theorem alloc82 (σ : Sto) : aAlloc prog σ 82 = aNewVar σ (.nilsl) := alloc_eq (by kernel_rfl) σ
theorem sto82 (σ : Sto) (v p : AV) : aStore prog σ 82 v p = aStoreN σ 1 v p := aStore_eq (by kernel_rfl) σ v p
theorem len82 (σ : Sto) (x : AV) : aLen prog σ 82 x = aLenSl x := aLen_sl (by kernel_rfl) σ x
theorem idx82 (x i : AV) : aIndexAddr prog 82 x i = aAt 1 x i := aIndexAddr_eq (by kernel_rfl) x i
theorem app82 (σ : Sto) (u : TypeId) (nl : Bool) (es : List AV) (k : Nat) (x : AV) : aAppendO prog σ 82 u nl 1 es k x = (aSrcE prog u 1 x).bind fun ds => appAt σ nl 1 1 es k ds σ[k]? := aAppendO_eq (by kernel_rfl) σ nl es k x
theorem src82 (x : AV) : aSrcE prog 82 1 x = aSrcS 1 x := aSrcE_sl (by kernel_rfl) 1 x
theorem nil82 (σ : Sto) (u : TypeId) (y : AV) : aApp prog false σ 82 u .nilsl y = aAppendO prog (σ ++ [.cap 0 1]) 82 u true 1 [] σ.length y := aApp_nil (by kernel_rfl) (by decide) σ u y
theorem row82 {len : Nat} {parts : List (Nat × AV)} (hl : len * 1 ≤ 16777216) (hp : 0 < len) (hi : parts.map (·.1) = List.range len) (hv : ∀ p ∈ parts, p.2.cells.length = 1 ∧ p.2.cells.all AV.one = true) : aBuildRow prog 82 len parts = some (.sl 1 (parts.map (·.2))) := aBuildRow_eq (by kernel_rfl) hl hp hi hv
theorem row1_82 (σ : Sto) (v : AV) (h1 : v.cells.length = 1) (h2 : v.cells.all AV.one = true) : aRow prog false σ 82 1 [(0, v)] = some (.slf 1 [v], σ) := aRow_slf (by kernel_rfl) (by decide) (row82 (len := 1) (parts := [(0, v)]) (by decide) (by decide) rfl (by intro p hp; simp only [List.mem_singleton] at hp; subst hp; exact ⟨h1, h2⟩)) σ
theorem tM82 : tMk prog 82 = some ([.val (.int .u8 0)], 1, 1) := by kernel_rfl
theorem mk82 (σ : Sto) (k k1 : IntKind) (n : Int) : aMakeSlice prog σ 82 (.val (.int k n)) (.val (.int k1 n)) = if 0 ≤ n ∧ fits n.toNat 1 = true then some (.osl σ.length 0 n.toNat 1, σ ++ [.cells (aZeros [.val (.int .u8 0)] (n.toNat * 1))]) else none := aMakeSlice_eq tM82 σ k k1 n
theorem rowm82 (σ : Sto) (v : AV) (h0 : v.cells.length = 1) (h1 : v.cells.all AV.one = true) : aRow prog true σ 82 1 [(0, v)] = some (.osl σ.length 0 1 1, σ ++ [.cells v.cells]) := aRow_live tM82 (by decide) σ v h0 h1
theorem row0_82 (σ : Sto) : aRow prog false σ 82 0 [] = some (.slo false 1 [] σ.length, σ ++ [.cap 0 1]) := aRow_zero (by kernel_rfl) (by decide) σ
theorem tO83 : tAgg prog 83 = some none := by kernel_rfl
theorem get83 (c : AV) (cs : List AV) : aGet prog 83 (c :: cs) = some c := by rw [aGet_one tO83]; rfl
theorem zero83 : aZero prog 83 = some (.val (.map none)) := by kernel_rfl
theorem alloc83 (σ : Sto) : aAlloc prog σ 83 = aNewVar σ (.val (.map none)) := alloc_eq (by kernel_rfl) σ
theorem sto83 (σ : Sto) (v p : AV) : aStore prog σ 83 v p = aStoreN σ 1 v p := aStore_eq (by kernel_rfl) σ v p
theorem tO84 : tAgg prog 84 = some none := by kernel_rfl
theorem get84 (c : AV) (cs : List AV) : aGet prog 84 (c :: cs) = some c := by rw [aGet_one tO84]; rfl
theorem zero84 : aZero prog 84 = some (.nilsl) := by kernel_rfl
theorem alloc84 (σ : Sto) : aAlloc prog σ 84 = aNewVar σ (.nilsl) := alloc_eq (by kernel_rfl) σ
theorem sto84 (σ : Sto) (v p : AV) : aStore prog σ 84 v p = aStoreN σ 1 v p := aStore_eq (by kernel_rfl) σ v p
theorem len84 (σ : Sto) (x : AV) : aLen prog σ 84 x = aLenSl x := aLen_sl (by kernel_rfl) σ x
theorem idx84 (x i : AV) : aIndexAddr prog 84 x i = aAt 1 x i := aIndexAddr_eq (by kernel_rfl) x i
theorem app84 (σ : Sto) (u : TypeId) (nl : Bool) (es : List AV) (k : Nat) (x : AV) : aAppendO prog σ 84 u nl 1 es k x = (aSrcE prog u 1 x).bind fun ds => appAt σ nl 1 8 es k ds σ[k]? := aAppendO_eq (by kernel_rfl) σ nl es k x
theorem src84 (x : AV) : aSrcE prog 84 1 x = aSrcS 1 x := aSrcE_sl (by kernel_rfl) 1 x
theorem nil84 (σ : Sto) (u : TypeId) (y : AV) : aApp prog false σ 84 u .nilsl y = aAppendO prog (σ ++ [.cap 0 1]) 84 u true 1 [] σ.length y := aApp_nil (by kernel_rfl) (by decide) σ u y
theorem row84 {len : Nat} {parts : List (Nat × AV)} (hl : len * 1 ≤ 16777216) (hp : 0 < len) (hi : parts.map (·.1) = List.range len) (hv : ∀ p ∈ parts, p.2.cells.length = 1 ∧ p.2.cells.all AV.one = true) : aBuildRow prog 84 len parts = some (.sl 1 (parts.map (·.2))) := aBuildRow_eq (by kernel_rfl) hl hp hi hv
theorem row1_84 (σ : Sto) (v : AV) (h1 : v.cells.length = 1) (h2 : v.cells.all AV.one = true) : aRow prog false σ 84 1 [(0, v)] = some (.sl 1 [v], σ) := aRow_sl (by kernel_rfl) (by decide) (row84 (len := 1) (parts := [(0, v)]) (by decide) (by decide) rfl (by intro p hp; simp only [List.mem_singleton] at hp; subst hp; exact ⟨h1, h2⟩)) σ
theorem tM84 : tMk prog 84 = some ([.val (.map none)], 1, 8) := by kernel_rfl
theorem mk84 (σ : Sto) (k k1 : IntKind) (n : Int) : aMakeSlice prog σ 84 (.val (.int k n)) (.val (.int k1 n)) = if 0 ≤ n ∧ fits n.toNat 8 = true then some (.osl σ.length 0 n.toNat 1, σ ++ [.cells (aZeros [.val (.map none)] (n.toNat * 1))]) else none := aMakeSlice_eq tM84 σ k k1 n
theorem rowm84 (σ : Sto) (v : AV) (h0 : v.cells.length = 1) (h1 : v.cells.all AV.one = true) : aRow prog true σ 84 1 [(0, v)] = some (.osl σ.length 0 1 1, σ ++ [.cells v.cells]) := aRow_live tM84 (by decide) σ v h0 h1
theorem row0_84 (σ : Sto) : aRow prog false σ 84 0 [] = some (.slo false 1 [] σ.length, σ ++ [.cap 0 1]) := aRow_zero (by kernel_rfl) (by decide) σ
theorem tO85 : tAgg prog 85 = some none := by kernel_rfl
theorem get85 (c : AV) (cs : List AV) : aGet prog 85 (c :: cs) = some c := by rw [aGet_one tO85]; rfl
theorem zero85 : aZero prog 85 = some (.nilsl) := by kernel_rfl
theorem alloc85 (σ : Sto) : aAlloc prog σ 85 = aNewVar σ (.nilsl) := alloc_eq (by kernel_rfl) σ
theorem sto85 (σ : Sto) (v p : AV) : aStore prog σ 85 v p = aStoreN σ 1 v p := aStore_eq (by kernel_rfl) σ v p
theorem len85 (σ : Sto) (x : AV) : aLen prog σ 85 x = aLenSl x := aLen_sl (by kernel_rfl) σ x
theorem idx85 (x i : AV) : aIndexAddr prog 85 x i = aAt 1 x i := aIndexAddr_eq (by kernel_rfl) x i
theorem app85 (σ : Sto) (u : TypeId) (nl : Bool) (es : List AV) (k : Nat) (x : AV) : aAppendO prog σ 85 u nl 1 es k x = (aSrcE prog u 1 x).bind fun ds => appAt σ nl 1 24 es k ds σ[k]? := aAppendO_eq (by kernel_rfl) σ nl es k x
theorem src85 (x : AV) : aSrcE prog 85 1 x = aSrcS 1 x := aSrcE_sl (by kernel_rfl) 1 x
theorem nil85 (σ : Sto) (u : TypeId) (y : AV) : aApp prog false σ 85 u .nilsl y = aAppendO prog (σ ++ [.cap 0 1]) 85 u true 1 [] σ.length y := aApp_nil (by kernel_rfl) (by decide) σ u y
theorem row85 {len : Nat} {parts : List (Nat × AV)} (hl : len * 1 ≤ 16777216) (hp : 0 < len) (hi : parts.map (·.1) = List.range len) (hv : ∀ p ∈ parts, p.2.cells.length = 1 ∧ p.2.cells.all AV.one = true) : aBuildRow prog 85 len parts = some (.sl 1 (parts.map (·.2))) := aBuildRow_eq (by kernel_rfl) hl hp hi hv
theorem row1_85 (σ : Sto) (v : AV) (h1 : v.cells.length = 1) (h2 : v.cells.all AV.one = true) : aRow prog false σ 85 1 [(0, v)] = some (.sl 1 [v], σ) := aRow_sl (by kernel_rfl) (by decide) (row85 (len := 1) (parts := [(0, v)]) (by decide) (by decide) rfl (by intro p hp; simp only [List.mem_singleton] at hp; subst hp; exact ⟨h1, h2⟩)) σ
theorem tM85 : tMk prog 85 = some ([.nilsl], 1, 24) := by kernel_rfl
theorem mk85 (σ : Sto) (k k1 : IntKind) (n : Int) : aMakeSlice prog σ 85 (.val (.int k n)) (.val (.int k1 n)) = if 0 ≤ n ∧ fits n.toNat 24 = true then some (.osl σ.length 0 n.toNat 1, σ ++ [.cells (aZeros [.nilsl] (n.toNat * 1))]) else none := aMakeSlice_eq tM85 σ k k1 n
theorem rowm85 (σ : Sto) (v : AV) (h0 : v.cells.length = 1) (h1 : v.cells.all AV.one = true) : aRow prog true σ 85 1 [(0, v)] = some (.osl σ.length 0 1 1, σ ++ [.cells v.cells]) := aRow_live tM85 (by decide) σ v h0 h1
theorem row0_85 (σ : Sto) : aRow prog false σ 85 0 [] = some (.slo false 1 [] σ.length, σ ++ [.cap 0 1]) := aRow_zero (by kernel_rfl) (by decide) σ
theorem tA87 : tAgg prog 87 = some (some 5) := by kernel_rfl
theorem get87 (a0 a1 a2 a3 a4 : AV) (l : List AV) : aGet prog 87 (a0 :: a1 :: a2 :: a3 :: a4 :: l) = some (.agg [a0, a1, a2, a3, a4]) := by rw [aGet_many tA87, if_pos (by simp)]; rfl
theorem fA87_0 (p : AV) : aFieldAddr prog 87 0 p = aOff 0 p := aFieldAddr_eq (t := 39) (by kernel_rfl) p
theorem fd87_0 (cs : List AV) : aField prog 87 0 (.agg cs) = some (.agg ((cs.drop 0).take 1)) := aField_eq (t := 39) (r := some 1) (by kernel_rfl) (by kernel_rfl) cs
theorem fA87_1 (p : AV) : aFieldAddr prog 87 1 p = aOff 1 p := aFieldAddr_eq (t := 83) (by kernel_rfl) p
theorem fd87_1 (cs : List AV) : aField prog 87 1 (.agg cs) = cs[1]? := aField_eq (t := 83) (r := none) (by kernel_rfl) (by kernel_rfl) cs
theorem fA87_2 (p : AV) : aFieldAddr prog 87 2 p = aOff 2 p := aFieldAddr_eq (t := 84) (by kernel_rfl) p
theorem fd87_2 (cs : List AV) : aField prog 87 2 (.agg cs) = cs[2]? := aField_eq (t := 84) (r := none) (by kernel_rfl) (by kernel_rfl) cs
theorem fA87_3 (p : AV) : aFieldAddr prog 87 3 p = aOff 3 p := aFieldAddr_eq (t := 85) (by kernel_rfl) p
theorem fd87_3 (cs : List AV) : aField prog 87 3 (.agg cs) = cs[3]? := aField_eq (t := 85) (r := none) (by kernel_rfl) (by kernel_rfl) cs
theorem fA87_4 (p : AV) : aFieldAddr prog 87 4 p = aOff 4 p := aFieldAddr_eq (t := 55) (by kernel_rfl) p
theorem fd87_4 (cs : List AV) : aField prog 87 4 (.agg cs) = cs[4]? := aField_eq (t := 55) (r := none) (by kernel_rfl) (by kernel_rfl) cs
theorem bld87 (parts : List (Nat × AV)) : aBuild prog 87 parts = (aFill (fun j => [(0, 1), (1, 1), (2, 1), (3, 1), (4, 1)][j]?) [.nilsl, .val (.map none), .nilsl, .nilsl, .nilsl] parts).map .agg := aBuild_eq (by kernel_rfl) parts
theorem zero87 : aZero prog 87 = some (.agg [.nilsl, .val (.map none), .nilsl, .nilsl, .nilsl]) := by kernel_rfl
theorem alloc87 (σ : Sto) : aAlloc prog σ 87 = aNewVar σ (.agg [.nilsl, .val (.map none), .nilsl, .nilsl, .nilsl]) := alloc_eq (by kernel_rfl) σ
theorem sto87 (σ : Sto) (v p : AV) : aStore prog σ 87 v p = aStoreN σ 5 v p := aStore_eq (by kernel_rfl) σ v p
theorem tO88 : tAgg prog 88 = some none := by kernel_rfl
theorem get88 (c : AV) (cs : List AV) : aGet prog 88 (c :: cs) = some c := by rw [aGet_one tO88]; rfl
theorem zero88 : aZero prog 88 = some (.val (.map none)) := by kernel_rfl
theorem alloc88 (σ : Sto) : aAlloc prog σ 88 = aNewVar σ (.val (.map none)) := alloc_eq (by kernel_rfl) σ
theorem sto88 (σ : Sto) (v p : AV) : aStore prog σ 88 v p = aStoreN σ 1 v p := aStore_eq (by kernel_rfl) σ v p
theorem row94 {len : Nat} {parts : List (Nat × AV)} (hl : len * 2 ≤ 16777216) (hp : 0 < len) (hi : parts.map (·.1) = List.range len) (hv : ∀ p ∈ parts, p.2.cells.length = 2 ∧ p.2.cells.all AV.one = true) : aBuildRow prog 94 len parts = some (.sl 2 (parts.map (·.2))) := aBuildRow_eq (by kernel_rfl) hl hp hi hv
theorem row1_94 (σ : Sto) (v : AV) (h1 : v.cells.length = 2) (h2 : v.cells.all AV.one = true) : aRow prog false σ 94 1 [(0, v)] = some (.sl 2 [v], σ) := aRow_sl (by kernel_rfl) (by decide) (row94 (len := 1) (parts := [(0, v)]) (by decide) (by decide) rfl (by intro p hp; simp only [List.mem_singleton] at hp; subst hp; exact ⟨h1, h2⟩)) σ
theorem row0_94 (σ : Sto) : aRow prog false σ 94 0 [] = some (.slo false 2 [] σ.length, σ ++ [.cap 0 2]) := aRow_zero (by kernel_rfl) (by decide) σ
theorem row101 {len : Nat} {parts : List (Nat × AV)} (hl : len * 1 ≤ 16777216) (hp : 0 < len) (hi : parts.map (·.1) = List.range len) (hv : ∀ p ∈ parts, p.2.cells.length = 1 ∧ p.2.cells.all AV.one = true) : aBuildRow prog 101 len parts = some (.sl 1 (parts.map (·.2))) := aBuildRow_eq (by kernel_rfl) hl hp hi hv
theorem row1_101 (σ : Sto) (v : AV) (h1 : v.cells.length = 1) (h2 : v.cells.all AV.one = true) : aRow prog false σ 101 1 [(0, v)] = some (.sl 1 [v], σ) := aRow_sl (by kernel_rfl) (by decide) (row101 (len := 1) (parts := [(0, v)]) (by decide) (by decide) rfl (by intro p hp; simp only [List.mem_singleton] at hp; subst hp; exact ⟨h1, h2⟩)) σ
theorem row0_101 (σ : Sto) : aRow prog false σ 101 0 [] = some (.slo false 1 [] σ.length, σ ++ [.cap 0 1]) := aRow_zero (by kernel_rfl) (by decide) σ
theorem tO104 : tAgg prog 104 = some none := by kernel_rfl
theorem get104 (c : AV) (cs : List AV) : aGet prog 104 (c :: cs) = some c := by rw [aGet_one tO104]; rfl
theorem zero104 : aZero prog 104 = some (.nilsl) := by kernel_rfl
theorem alloc104 (σ : Sto) : aAlloc prog σ 104 = aNewVar σ (.nilsl) := alloc_eq (by kernel_rfl) σ
theorem sto104 (σ : Sto) (v p : AV) : aStore prog σ 104 v p = aStoreN σ 1 v p := aStore_eq (by kernel_rfl) σ v p
theorem len104 (σ : Sto) (x : AV) : aLen prog σ 104 x = aLenSl x := aLen_sl (by kernel_rfl) σ x
theorem idx104 (x i : AV) : aIndexAddr prog 104 x i = aAt 1 x i := aIndexAddr_eq (by kernel_rfl) x i
theorem app104 (σ : Sto) (u : TypeId) (nl : Bool) (es : List AV) (k : Nat) (x : AV) : aAppendO prog σ 104 u nl 1 es k x = (aSrcE prog u 1 x).bind fun ds => appAt σ nl 1 1 es k ds σ[k]? := aAppendO_eq (by kernel_rfl) σ nl es k x
theorem src104 (x : AV) : aSrcE prog 104 1 x = aSrcS 1 x := aSrcE_sl (by kernel_rfl) 1 x
theorem nil104 (σ : Sto) (u : TypeId) (y : AV) : aApp prog false σ 104 u .nilsl y = aAppendO prog (σ ++ [.cap 0 1]) 104 u true 1 [] σ.length y := aApp_nil (by kernel_rfl) (by decide) σ u y
theorem row104 {len : Nat} {parts : List (Nat × AV)} (hl : len * 1 ≤ 16777216) (hp : 0 < len) (hi : parts.map (·.1) = List.range len) (hv : ∀ p ∈ parts, p.2.cells.length = 1 ∧ p.2.cells.all AV.one = true) : aBuildRow prog 104 len parts = some (.sl 1 (parts.map (·.2))) := aBuildRow_eq (by kernel_rfl) hl hp hi hv
theorem row1_104 (σ : Sto) (v : AV) (h1 : v.cells.length = 1) (h2 : v.cells.all AV.one = true) : aRow prog false σ 104 1 [(0, v)] = some (.sl 1 [v], σ) := aRow_sl (by kernel_rfl) (by decide) (row104 (len := 1) (parts := [(0, v)]) (by decide) (by decide) rfl (by intro p hp; simp only [List.mem_singleton] at hp; subst hp; exact ⟨h1, h2⟩)) σ
theorem tM104 : tMk prog 104 = some ([.val (.bool false)], 1, 1) := by kernel_rfl
theorem mk104 (σ : Sto) (k k1 : IntKind) (n : Int) : aMakeSlice prog σ 104 (.val (.int k n)) (.val (.int k1 n)) = if 0 ≤ n ∧ fits n.toNat 1 = true then some (.osl σ.length 0 n.toNat 1, σ ++ [.cells (aZeros [.val (.bool false)] (n.toNat * 1))]) else none := aMakeSlice_eq tM104 σ k k1 n
theorem rowm104 (σ : Sto) (v : AV) (h0 : v.cells.length = 1) (h1 : v.cells.all AV.one = true) : aRow prog true σ 104 1 [(0, v)] = some (.osl σ.length 0 1 1, σ ++ [.cells v.cells]) := aRow_live tM104 (by decide) σ v h0 h1
theorem row0_104 (σ : Sto) : aRow prog false σ 104 0 [] = some (.slo false 1 [] σ.length, σ ++ [.cap 0 1]) := aRow_zero (by kernel_rfl) (by decide) σ
theorem row106 {len : Nat} {parts : List (Nat × AV)} (hl : len * 2 ≤ 16777216) (hp : 0 < len) (hi : parts.map (·.1) = List.range len) (hv : ∀ p ∈ parts, p.2.cells.length = 2 ∧ p.2.cells.all AV.one = true) : aBuildRow prog 106 len parts = some (.sl 2 (parts.map (·.2))) := aBuildRow_eq (by kernel_rfl) hl hp hi hv
theorem row1_106 (σ : Sto) (v : AV) (h1 : v.cells.length = 2) (h2 : v.cells.all AV.one = true) : aRow prog false σ 106 1 [(0, v)] = some (.sl 2 [v], σ) := aRow_sl (by kernel_rfl) (by decide) (row106 (len := 1) (parts := [(0, v)]) (by decide) (by decide) rfl (by intro p hp; simp only [List.mem_singleton] at hp; subst hp; exact ⟨h1, h2⟩)) σ
theorem row0_106 (σ : Sto) : aRow prog false σ 106 0 [] = some (.slo false 2 [] σ.length, σ ++ [.cap 0 2]) := aRow_zero (by kernel_rfl) (by decide) σ
theorem row109 {len : Nat} {parts : List (Nat × AV)} (hl : len * 2 ≤ 16777216) (hp : 0 < len) (hi : parts.map (·.1) = List.range len) (hv : ∀ p ∈ parts, p.2.cells.length = 2 ∧ p.2.cells.all AV.one = true) : aBuildRow prog 109 len parts = some (.sl 2 (parts.map (·.2))) := aBuildRow_eq (by kernel_rfl) hl hp hi hv
theorem row1_109 (σ : Sto) (v : AV) (h1 : v.cells.length = 2) (h2 : v.cells.all AV.one = true) : aRow prog false σ 109 1 [(0, v)] = some (.sl 2 [v], σ) := aRow_sl (by kernel_rfl) (by decide) (row109 (len := 1) (parts := [(0, v)]) (by decide) (by decide) rfl (by intro p hp; simp only [List.mem_singleton] at hp; subst hp; exact ⟨h1, h2⟩)) σ
theorem row0_109 (σ : Sto) : aRow prog false σ 109 0 [] = some (.slo false 2 [] σ.length, σ ++ [.cap 0 2]) := aRow_zero (by kernel_rfl) (by decide) σ
theorem row111 {len : Nat} {parts : List (Nat × AV)} (hl : len * 2 ≤ 16777216) (hp : 0 < len) (hi : parts.map (·.1) = List.range len) (hv : ∀ p ∈ parts, p.2.cells.length = 2 ∧ p.2.cells.all AV.one = true) : aBuildRow prog 111 len parts = some (.sl 2 (parts.map (·.2))) := aBuildRow_eq (by kernel_rfl) hl hp hi hv
theorem row1_111 (σ : Sto) (v : AV) (h1 : v.cells.length = 2) (h2 : v.cells.all AV.one = true) : aRow prog false σ 111 1 [(0, v)] = some (.sl 2 [v], σ) := aRow_sl (by kernel_rfl) (by decide) (row111 (len := 1) (parts := [(0, v)]) (by decide) (by decide) rfl (by intro p hp; simp only [List.mem_singleton] at hp; subst hp; exact ⟨h1, h2⟩)) σ
theorem row0_111 (σ : Sto) : aRow prog false σ 111 0 [] = some (.slo false 2 [] σ.length, σ ++ [.cap 0 2]) := aRow_zero (by kernel_rfl) (by decide) σ
theorem tO121 : tAgg prog 121 = some none := by kernel_rfl
theorem get121 (c : AV) (cs : List AV) : aGet prog 121 (c :: cs) = some c := by rw [aGet_one tO121]; rfl
theorem zero121 : aZero prog 121 = some (.val .nilFunc) := by kernel_rfl
theorem alloc121 (σ : Sto) : aAlloc prog σ 121 = aNewVar σ (.val .nilFunc) := alloc_eq (by kernel_rfl) σ
theorem sto121 (σ : Sto) (v p : AV) : aStore prog σ 121 v p = aStoreN σ 1 v p := aStore_eq (by kernel_rfl) σ v p
theorem tO122 : tAgg prog 122 = some none := by kernel_rfl
theorem get122 (c : AV) (cs : List AV) : aGet prog 122 (c :: cs) = some c := by rw [aGet_one tO122]; rfl
theorem zero122 : aZero prog 122 = some (.val .nilFunc) := by kernel_rfl
theorem alloc122 (σ : Sto) : aAlloc prog σ 122 = aNewVar σ (.val .nilFunc) := alloc_eq (by kernel_rfl) σ
theorem sto122 (σ : Sto) (v p : AV) : aStore prog σ 122 v p = aStoreN σ 1 v p := aStore_eq (by kernel_rfl) σ v p
theorem tO127 : tAgg prog 127 = some none := by kernel_rfl
theorem get127 (c : AV) (cs : List AV) : aGet prog 127 (c :: cs) = some c := by rw [aGet_one tO127]; rfl
theorem zero127 : aZero prog 127 = some (.val .nilFunc) := by kernel_rfl
theorem alloc127 (σ : Sto) : aAlloc prog σ 127 = aNewVar σ (.val .nilFunc) := alloc_eq (by kernel_rfl) σ
theorem sto127 (σ : Sto) (v p : AV) : aStore prog σ 127 v p = aStoreN σ 1 v p := aStore_eq (by kernel_rfl) σ v p
theorem row134 {len : Nat} {parts : List (Nat × AV)} (hl : len * 1 ≤ 16777216) (hp : 0 < len) (hi : parts.map (·.1) = List.range len) (hv : ∀ p ∈ parts, p.2.cells.length = 1 ∧ p.2.cells.all AV.one = true) : aBuildRow prog 134 len parts = some (.sl 1 (parts.map (·.2))) := aBuildRow_eq (by kernel_rfl) hl hp hi hv
theorem row1_134 (σ : Sto) (v : AV) (h1 : v.cells.length = 1) (h2 : v.cells.all AV.one = true) : aRow prog false σ 134 1 [(0, v)] = some (.sl 1 [v], σ) := aRow_sl (by kernel_rfl) (by decide) (row134 (len := 1) (parts := [(0, v)]) (by decide) (by decide) rfl (by intro p hp; simp only [List.mem_singleton] at hp; subst hp; exact ⟨h1, h2⟩)) σ
theorem row0_134 (σ : Sto) : aRow prog false σ 134 0 [] = some (.slo false 1 [] σ.length, σ ++ [.cap 0 1]) := aRow_zero (by kernel_rfl) (by decide) σ
theorem tO141 : tAgg prog 141 = some none := by kernel_rfl
theorem get141 (c : AV) (cs : List AV) : aGet prog 141 (c :: cs) = some c := by rw [aGet_one tO141]; rfl
theorem zero141 : aZero prog 141 = some (.val .nilFunc) := by kernel_rfl
theorem alloc141 (σ : Sto) : aAlloc prog σ 141 = aNewVar σ (.val .nilFunc) := alloc_eq (by kernel_rfl) σ
theorem sto141 (σ : Sto) (v p : AV) : aStore prog σ 141 v p = aStoreN σ 1 v p := aStore_eq (by kernel_rfl) σ v p
theorem tO144 : tAgg prog 144 = some none := by kernel_rfl
theorem get144 (c : AV) (cs : List AV) : aGet prog 144 (c :: cs) = some c := by rw [aGet_one tO144]; rfl
theorem zero144 : aZero prog 144 = some (.val .nilFunc) := by kernel_rfl
theorem alloc144 (σ : Sto) : aAlloc prog σ 144 = aNewVar σ (.val .nilFunc) := alloc_eq (by kernel_rfl) σ
theorem sto144 (σ : Sto) (v p : AV) : aStore prog σ 144 v p = aStoreN σ 1 v p := aStore_eq (by kernel_rfl) σ v p
theorem tO146 : tAgg prog 146 = some none := by kernel_rfl
theorem get146 (c : AV) (cs : List AV) : aGet prog 146 (c :: cs) = some c := by rw [aGet_one tO146]; rfl
theorem zero146 : aZero prog 146 = some (.val (.map none)) := by kernel_rfl
theorem alloc146 (σ : Sto) : aAlloc prog σ 146 = aNewVar σ (.val (.map none)) := alloc_eq (by kernel_rfl) σ
theorem sto146 (σ : Sto) (v p : AV) : aStore prog σ 146 v p = aStoreN σ 1 v p := aStore_eq (by kernel_rfl) σ v p
theorem row154 {len : Nat} {parts : List (Nat × AV)} (hl : len * 1 ≤ 16777216) (hp : 0 < len) (hi : parts.map (·.1) = List.range len) (hv : ∀ p ∈ parts, p.2.cells.length = 1 ∧ p.2.cells.all AV.one = true) : aBuildRow prog 154 len parts = some (.sl 1 (parts.map (·.2))) := aBuildRow_eq (by kernel_rfl) hl hp hi hv
theorem row1_154 (σ : Sto) (v : AV) (h1 : v.cells.length = 1) (h2 : v.cells.all AV.one = true) : aRow prog false σ 154 1 [(0, v)] = some (.sl 1 [v], σ) := aRow_sl (by kernel_rfl) (by decide) (row154 (len := 1) (parts := [(0, v)]) (by decide) (by decide) rfl (by intro p hp; simp only [List.mem_singleton] at hp; subst hp; exact ⟨h1, h2⟩)) σ
theorem row0_154 (σ : Sto) : aRow prog false σ 154 0 [] = some (.slo false 1 [] σ.length, σ ++ [.cap 0 1]) := aRow_zero (by kernel_rfl) (by decide) σ
theorem tA158 : tAgg prog 158 = some (some 4) := by kernel_rfl
theorem get158 (a0 a1 a2 a3 : AV) (l : List AV) : aGet prog 158 (a0 :: a1 :: a2 :: a3 :: l) = some (.agg [a0, a1, a2, a3]) := by rw [aGet_many tA158, if_pos (by simp)]; rfl
theorem fA158_0 (p : AV) : aFieldAddr prog 158 0 p = aOff 0 p := aFieldAddr_eq (t := 3) (by kernel_rfl) p
theorem fd158_0 (cs : List AV) : aField prog 158 0 (.agg cs) = cs[0]? := aField_eq (t := 3) (r := none) (by kernel_rfl) (by kernel_rfl) cs
theorem fA158_1 (p : AV) : aFieldAddr prog 158 1 p = aOff 1 p := aFieldAddr_eq (t := 3) (by kernel_rfl) p
theorem fd158_1 (cs : List AV) : aField prog 158 1 (.agg cs) = cs[1]? := aField_eq (t := 3) (r := none) (by kernel_rfl) (by kernel_rfl) cs
theorem fA158_2 (p : AV) : aFieldAddr prog 158 2 p = aOff 2 p := aFieldAddr_eq (t := 2) (by kernel_rfl) p
theorem fd158_2 (cs : List AV) : aField prog 158 2 (.agg cs) = cs[2]? := aField_eq (t := 2) (r := none) (by kernel_rfl) (by kernel_rfl) cs
theorem fA158_3 (p : AV) : aFieldAddr prog 158 3 p = aOff 3 p := aFieldAddr_eq (t := 3) (by kernel_rfl) p
theorem fd158_3 (cs : List AV) : aField prog 158 3 (.agg cs) = cs[3]? := aField_eq (t := 3) (r := none) (by kernel_rfl) (by kernel_rfl) cs
theorem bld158 (parts : List (Nat × AV)) : aBuild prog 158 parts = (aFill (fun j => [(0, 1), (1, 1), (2, 1), (3, 1)][j]?) [.val (.int .i64 0), .val (.int .i64 0), .val (.int .i64 0), .val (.int .i64 0)] parts).map .agg := aBuild_eq (by kernel_rfl) parts
theorem zero158 : aZero prog 158 = some (.agg [.val (.int .i64 0), .val (.int .i64 0), .val (.int .i64 0), .val (.int .i64 0)]) := by kernel_rfl
theorem alloc158 (σ : Sto) : aAlloc prog σ 158 = aNewVar σ (.agg [.val (.int .i64 0), .val (.int .i64 0), .val (.int .i64 0), .val (.int .i64 0)]) := alloc_eq (by kernel_rfl) σ
theorem sto158 (σ : Sto) (v p : AV) : aStore prog σ 158 v p = aStoreN σ 4 v p := aStore_eq (by kernel_rfl) σ v p
theorem tO159 : tAgg prog 159 = some none := by kernel_rfl
theorem get159 (c : AV) (cs : List AV) : aGet prog 159 (c :: cs) = some c := by rw [aGet_one tO159]; rfl
theorem zero159 : aZero prog 159 = some (.nilsl) := by kernel_rfl
theorem alloc159 (σ : Sto) : aAlloc prog σ 159 = aNewVar σ (.nilsl) := alloc_eq (by kernel_rfl) σ
theorem sto159 (σ : Sto) (v p : AV) : aStore prog σ 159 v p = aStoreN σ 1 v p := aStore_eq (by kernel_rfl) σ v p
theorem len159 (σ : Sto) (x : AV) : aLen prog σ 159 x = aLenSl x := aLen_sl (by kernel_rfl) σ x
theorem idx159 (x i : AV) : aIndexAddr prog 159 x i = aAt 4 x i := aIndexAddr_eq (by kernel_rfl) x i
theorem app159 (σ : Sto) (u : TypeId) (nl : Bool) (es : List AV) (k : Nat) (x : AV) : aAppendO prog σ 159 u nl 4 es k x = (aSrcE prog u 4 x).bind fun ds => appAt σ nl 4 32 es k ds σ[k]? := aAppendO_eq (by kernel_rfl) σ nl es k x
theorem src159 (x : AV) : aSrcE prog 159 4 x = aSrcS 4 x := aSrcE_sl (by kernel_rfl) 4 x
theorem nil159 (σ : Sto) (u : TypeId) (y : AV) : aApp prog false σ 159 u .nilsl y = aAppendO prog (σ ++ [.cap 0 4]) 159 u true 4 [] σ.length y := aApp_nil (by kernel_rfl) (by decide) σ u y
theorem row159 {len : Nat} {parts : List (Nat × AV)} (hl : len * 4 ≤ 16777216) (hp : 0 < len) (hi : parts.map (·.1) = List.range len) (hv : ∀ p ∈ parts, p.2.cells.length = 4 ∧ p.2.cells.all AV.one = true) : aBuildRow prog 159 len parts = some (.sl 4 (parts.map (·.2))) := aBuildRow_eq (by kernel_rfl) hl hp hi hv
theorem row1_159 (σ : Sto) (v : AV) (h1 : v.cells.length = 4) (h2 : v.cells.all AV.one = true) : aRow prog false σ 159 1 [(0, v)] = some (.sl 4 [v], σ) := aRow_sl (by kernel_rfl) (by decide) (row159 (len := 1) (parts := [(0, v)]) (by decide) (by decide) rfl (by intro p hp; simp only [List.mem_singleton] at hp; subst hp; exact ⟨h1, h2⟩)) σ
theorem tM159 : tMk prog 159 = some ([.val (.int .i64 0), .val (.int .i64 0), .val (.int .i64 0), .val (.int .i64 0)], 4, 32) := by kernel_rfl
theorem mk159 (σ : Sto) (k k1 : IntKind) (n : Int) : aMakeSlice prog σ 159 (.val (.int k n)) (.val (.int k1 n)) = if 0 ≤ n ∧ fits n.toNat 32 = true then some (.osl σ.length 0 n.toNat 4, σ ++ [.cells (aZeros [.val (.int .i64 0), .val (.int .i64 0), .val (.int .i64 0), .val (.int .i64 0)] (n.toNat * 4))]) else none := aMakeSlice_eq tM159 σ k k1 n
theorem rowm159 (σ : Sto) (v : AV) (h0 : v.cells.length = 4) (h1 : v.cells.all AV.one = true) : aRow prog true σ 159 1 [(0, v)] = some (.osl σ.length 0 1 4, σ ++ [.cells v.cells]) := aRow_live tM159 (by decide) σ v h0 h1
theorem row0_159 (σ : Sto) : aRow prog false σ 159 0 [] = some (.slo false 4 [] σ.length, σ ++ [.cap 0 4]) := aRow_zero (by kernel_rfl) (by decide) σ
theorem tO161 : tAgg prog 161 = some none := by kernel_rfl
theorem get161 (c : AV) (cs : List AV) : aGet prog 161 (c :: cs) = some c := by rw [aGet_one tO161]; rfl
theorem zero161 : aZero prog 161 = some (.val .nilFunc) := by kernel_rfl
theorem alloc161 (σ : Sto) : aAlloc prog σ 161 = aNewVar σ (.val .nilFunc) := alloc_eq (by kernel_rfl) σ
theorem sto161 (σ : Sto) (v p : AV) : aStore prog σ 161 v p = aStoreN σ 1 v p := aStore_eq (by kernel_rfl) σ v p
theorem tA162 : tAgg prog 162 = some (some 2) := by kernel_rfl
theorem get162 (a0 a1 : AV) (l : List AV) : aGet prog 162 (a0 :: a1 :: l) = some (.agg [a0, a1]) := by rw [aGet_many tA162, if_pos (by simp)]; rfl
theorem fA162_0 (p : AV) : aFieldAddr prog 162 0 p = aOff 0 p := aFieldAddr_eq (t := 3) (by kernel_rfl) p
theorem fd162_0 (cs : List AV) : aField prog 162 0 (.agg cs) = cs[0]? := aField_eq (t := 3) (r := none) (by kernel_rfl) (by kernel_rfl) cs
theorem fA162_1 (p : AV) : aFieldAddr prog 162 1 p = aOff 1 p := aFieldAddr_eq (t := 3) (by kernel_rfl) p
theorem fd162_1 (cs : List AV) : aField prog 162 1 (.agg cs) = cs[1]? := aField_eq (t := 3) (r := none) (by kernel_rfl) (by kernel_rfl) cs
theorem bld162 (parts : List (Nat × AV)) : aBuild prog 162 parts = (aFill (fun j => [(0, 1), (1, 1)][j]?) [.val (.int .i64 0), .val (.int .i64 0)] parts).map .agg := aBuild_eq (by kernel_rfl) parts
theorem zero162 : aZero prog 162 = some (.agg [.val (.int .i64 0), .val (.int .i64 0)]) := by kernel_rfl
theorem alloc162 (σ : Sto) : aAlloc prog σ 162 = aNewVar σ (.agg [.val (.int .i64 0), .val (.int .i64 0)]) := alloc_eq (by kernel_rfl) σ
theorem sto162 (σ : Sto) (v p : AV) : aStore prog σ 162 v p = aStoreN σ 2 v p := aStore_eq (by kernel_rfl) σ v p
theorem tO163 : tAgg prog 163 = some none := by kernel_rfl
theorem get163 (c : AV) (cs : List AV) : aGet prog 163 (c :: cs) = some c := by rw [aGet_one tO163]; rfl
theorem zero163 : aZero prog 163 = some (.nilsl) := by kernel_rfl
theorem alloc163 (σ : Sto) : aAlloc prog σ 163 = aNewVar σ (.nilsl) := alloc_eq (by kernel_rfl) σ
theorem sto163 (σ : Sto) (v p : AV) : aStore prog σ 163 v p = aStoreN σ 1 v p := aStore_eq (by kernel_rfl) σ v p
theorem len163 (σ : Sto) (x : AV) : aLen prog σ 163 x = aLenSl x := aLen_sl (by kernel_rfl) σ x
theorem idx163 (x i : AV) : aIndexAddr prog 163 x i = aAt 2 x i := aIndexAddr_eq (by kernel_rfl) x i
theorem app163 (σ : Sto) (u : TypeId) (nl : Bool) (es : List AV) (k : Nat) (x : AV) : aAppendO prog σ 163 u nl 2 es k x = (aSrcE prog u 2 x).bind fun ds => appAt σ nl 2 16 es k ds σ[k]? := aAppendO_eq (by kernel_rfl) σ nl es k x
theorem src163 (x : AV) : aSrcE prog 163 2 x = aSrcS 2 x := aSrcE_sl (by kernel_rfl) 2 x
theorem nil163 (σ : Sto) (u : TypeId) (y : AV) : aApp prog false σ 163 u .nilsl y = aAppendO prog (σ ++ [.cap 0 2]) 163 u true 2 [] σ.length y := aApp_nil (by kernel_rfl) (by decide) σ u y
theorem row163 {len : Nat} {parts : List (Nat × AV)} (hl : len * 2 ≤ 16777216) (hp : 0 < len) (hi : parts.map (·.1) = List.range len) (hv : ∀ p ∈ parts, p.2.cells.length = 2 ∧ p.2.cells.all AV.one = true) : aBuildRow prog 163 len parts = some (.sl 2 (parts.map (·.2))) := aBuildRow_eq (by kernel_rfl) hl hp hi hv
theorem row1_163 (σ : Sto) (v : AV) (h1 : v.cells.length = 2) (h2 : v.cells.all AV.one = true) : aRow prog false σ 163 1 [(0, v)] = some (.sl 2 [v], σ) := aRow_sl (by kernel_rfl) (by decide) (row163 (len := 1) (parts := [(0, v)]) (by decide) (by decide) rfl (by intro p hp; simp only [List.mem_singleton] at hp; subst hp; exact ⟨h1, h2⟩)) σ
theorem tM163 : tMk prog 163 = some ([.val (.int .i64 0), .val (.int .i64 0)], 2, 16) := by kernel_rfl
theorem mk163 (σ : Sto) (k k1 : IntKind) (n : Int) : aMakeSlice prog σ 163 (.val (.int k n)) (.val (.int k1 n)) = if 0 ≤ n ∧ fits n.toNat 16 = true then some (.osl σ.length 0 n.toNat 2, σ ++ [.cells (aZeros [.val (.int .i64 0), .val (.int .i64 0)] (n.toNat * 2))]) else none := aMakeSlice_eq tM163 σ k k1 n
theorem rowm163 (σ : Sto) (v : AV) (h0 : v.cells.length = 2) (h1 : v.cells.all AV.one = true) : aRow prog true σ 163 1 [(0, v)] = some (.osl σ.length 0 1 2, σ ++ [.cells v.cells]) := aRow_live tM163 (by decide) σ v h0 h1
theorem row0_163 (σ : Sto) : aRow prog false σ 163 0 [] = some (.slo false 2 [] σ.length, σ ++ [.cap 0 2]) := aRow_zero (by kernel_rfl) (by decide) σ
theorem row173 {len : Nat} {parts : List (Nat × AV)} (hl : len * 1 ≤ 16777216) (hp : 0 < len) (hi : parts.map (·.1) = List.range len) (hv : ∀ p ∈ parts, p.2.cells.length = 1 ∧ p.2.cells.all AV.one = true) : aBuildRow prog 173 len parts = some (.sl 1 (parts.map (·.2))) := aBuildRow_eq (by kernel_rfl) hl hp hi hv
theorem row1_173 (σ : Sto) (v : AV) (h1 : v.cells.length = 1) (h2 : v.cells.all AV.one = true) : aRow prog false σ 173 1 [(0, v)] = some (.sl 1 [v], σ) := aRow_sl (by kernel_rfl) (by decide) (row173 (len := 1) (parts := [(0, v)]) (by decide) (by decide) rfl (by intro p hp; simp only [List.mem_singleton] at hp; subst hp; exact ⟨h1, h2⟩)) σ
theorem row0_173 (σ : Sto) : aRow prog false σ 173 0 [] = some (.slo false 1 [] σ.length, σ ++ [.cap 0 1]) := aRow_zero (by kernel_rfl) (by decide) σ
theorem cvt3_5 (k : IntKind) (n : Int) (σ : Sto) : aConv prog σ 3 5 (.val (.int k n)) = some (.val (.int .u8 (IntKind.wrap .u8 n)), σ) := aConv_int (ks := .i64) (by kernel_rfl) (by kernel_rfl) k n σ
theorem cvt3_21 (k : IntKind) (n : Int) (σ : Sto) : aConv prog σ 3 21 (.val (.int k n)) = some (.val (.int .i32 (IntKind.wrap .i32 n)), σ) := aConv_int (ks := .i64) (by kernel_rfl) (by kernel_rfl) k n σ
theorem cvt22_3 (k : IntKind) (n : Int) (σ : Sto) : aConv prog σ 22 3 (.val (.int k n)) = some (.val (.int .i64 (IntKind.wrap .i64 n)), σ) := aConv_int (ks := .u16) (by kernel_rfl) (by kernel_rfl) k n σ
theorem cvb9_82 (σ : Sto) (x : ByteArray) (hx : x.size ≤ 4611686018427387904) : aConv prog σ 9 82 (.val (.string x)) = some (rowAV 1 false (x.data.toList.map byteAV), σ) := by rw [row_false]; exact aConv_toB (by kernel_rfl) (by kernel_rfl) σ x hx
theorem en3 : Enters prog 3 := enters_of func3 (by kernel_rfl) rfl
theorem en6 : Enters prog 6 := enters_of func6 (by kernel_rfl) rfl
theorem en7 : Enters prog 7 := enters_of func7 (by kernel_rfl) rfl
theorem en8 : Enters prog 8 := enters_of func8 (by kernel_rfl) rfl
theorem en27 : Enters prog 27 := enters_of func27 (by kernel_rfl) rfl
theorem en28 : Enters prog 28 := enters_of func28 (by kernel_rfl) rfl
theorem en29 : Enters prog 29 := enters_of func29 (by kernel_rfl) rfl
theorem en45 : Enters prog 45 := enters_of func45 (by kernel_rfl) rfl
theorem en46 : Enters prog 46 := enters_of func46 (by kernel_rfl) rfl
theorem en47 : Enters prog 47 := enters_of func47 (by kernel_rfl) rfl
theorem en48 : Enters prog 48 := enters_of func48 (by kernel_rfl) rfl
theorem en49 : Enters prog 49 := enters_of func49 (by kernel_rfl) rfl
theorem en50 : Enters prog 50 := enters_of func50 (by kernel_rfl) rfl
theorem en51 : Enters prog 51 := enters_of func51 (by kernel_rfl) rfl
theorem en52 : Enters prog 52 := enters_of func52 (by kernel_rfl) rfl
theorem en53 : Enters prog 53 := enters_of func53 (by kernel_rfl) rfl
theorem en54 : Enters prog 54 := enters_of func54 (by kernel_rfl) rfl
theorem en55 : Enters prog 55 := enters_of func55 (by kernel_rfl) rfl
theorem en56 : Enters prog 56 := enters_of func56 (by kernel_rfl) rfl
theorem en65 : Enters prog 65 := enters_of func65 (by kernel_rfl) rfl
theorem en66 : Enters prog 66 := enters_of func66 (by kernel_rfl) rfl
theorem en67 : Enters prog 67 := enters_of func67 (by kernel_rfl) rfl
theorem en68 : Enters prog 68 := enters_of func68 (by kernel_rfl) rfl
theorem en69 : Enters prog 69 := enters_of func69 (by kernel_rfl) rfl
theorem en70 : Enters prog 70 := enters_of func70 (by kernel_rfl) rfl
theorem en71 : Enters prog 71 := enters_of func71 (by kernel_rfl) rfl
theorem en72 : Enters prog 72 := enters_of func72 (by kernel_rfl) rfl
theorem en73 : Enters prog 73 := enters_of func73 (by kernel_rfl) rfl
theorem en74 : Enters prog 74 := enters_of func74 (by kernel_rfl) rfl
theorem en75 : Enters prog 75 := enters_of func75 (by kernel_rfl) rfl
theorem en76 : Enters prog 76 := enters_of func76 (by kernel_rfl) rfl
theorem en77 : Enters prog 77 := enters_of func77 (by kernel_rfl) rfl
theorem en78 : Enters prog 78 := enters_of func78 (by kernel_rfl) rfl
theorem en79 : Enters prog 79 := enters_of func79 (by kernel_rfl) rfl
theorem en80 : Enters prog 80 := enters_of func80 (by kernel_rfl) rfl
theorem en81 : Enters prog 81 := enters_of func81 (by kernel_rfl) rfl
theorem en82 : Enters prog 82 := enters_of func82 (by kernel_rfl) rfl
theorem en85 : Enters prog 85 := enters_of func85 (by kernel_rfl) rfl
theorem en86 : Enters prog 86 := enters_of func86 (by kernel_rfl) rfl
theorem en87 : Enters prog 87 := enters_of func87 (by kernel_rfl) rfl
theorem en88 : Enters prog 88 := enters_of func88 (by kernel_rfl) rfl
theorem en89 : Enters prog 89 := enters_of func89 (by kernel_rfl) rfl
theorem en97 : Enters prog 97 := enters_of func97 (by kernel_rfl) rfl
theorem mixed : prog.follows .mixedOrders = true := by kernel_rfl
attribute [go_sem] get2 zero2 alloc2 sto2 get3 zero3 alloc3 sto3 get4 zero4 alloc4 sto4 tyBool4 get5 zero5 alloc5 sto5 get9 zero9 alloc9 sto9 len9 tyStr9 get21 zero21 alloc21 sto21 get22 zero22 alloc22 sto22 get24 fA24_0 fd24_0 fA24_1 fd24_1 bld24 zero24 alloc24 sto24 get26 fA26_0 fd26_0 fA26_1 fd26_1 bld26 zero26 alloc26 sto26 get28 fA28_0 fd28_0 fA28_1 fd28_1 bld28 zero28 alloc28 sto28 get29 zero29 alloc29 sto29 len29 idx29 app29 src29 nil29 row1_29 mk29 rowm29 row0_29 get30 zero30 alloc30 sto30 len30 idx30 app30 src30 nil30 row1_30 mk30 rowm30 row0_30 get32 fA32_0 fd32_0 fA32_1 fd32_1 fA32_2 fd32_2 fA32_3 fd32_3 fA32_4 fd32_4 fA32_5 fd32_5 fA32_6 fd32_6 bld32 zero32 alloc32 sto32 get33 zero33 alloc33 sto33 len33 idx33 app33 src33 nil33 row1_33 mk33 rowm33 row0_33 get34 zero34 alloc34 sto34 len34 idx34 app34 src34 nil34 row1_34 mk34 rowm34 row0_34 get36 fA36_0 fd36_0 fA36_1 fd36_1 fA36_2 fd36_2 fA36_3 fd36_3 bld36 zero36 alloc36 sto36 get37 zero37 alloc37 sto37 len37 idx37 app37 src37 nil37 row1_37 mk37 rowm37 row0_37 get39 fA39_0 fd39_0 bld39 zero39 alloc39 sto39 get41 zero41 alloc41 sto41 get43 zero43 alloc43 sto43 ptr43 ptrn43 row1_48 row0_48 get55 zero55 alloc55 sto55 len55 idx55 app55 src55 nil55 row1_55 mk55 rowm55 row0_55 row1_58 row0_58 row1_59 row0_59 row1_60 row0_60 row1_74 row0_74 row1_76 row0_76 get82 zero82 alloc82 sto82 len82 idx82 app82 src82 nil82 row1_82 mk82 rowm82 row0_82 get83 zero83 alloc83 sto83 get84 zero84 alloc84 sto84 len84 idx84 app84 src84 nil84 row1_84 mk84 rowm84 row0_84 get85 zero85 alloc85 sto85 len85 idx85 app85 src85 nil85 row1_85 mk85 rowm85 row0_85 get87 fA87_0 fd87_0 fA87_1 fd87_1 fA87_2 fd87_2 fA87_3 fd87_3 fA87_4 fd87_4 bld87 zero87 alloc87 sto87 get88 zero88 alloc88 sto88 row1_94 row0_94 row1_101 row0_101 get104 zero104 alloc104 sto104 len104 idx104 app104 src104 nil104 row1_104 mk104 rowm104 row0_104 row1_106 row0_106 row1_109 row0_109 row1_111 row0_111 get121 zero121 alloc121 sto121 get122 zero122 alloc122 sto122 get127 zero127 alloc127 sto127 row1_134 row0_134 get141 zero141 alloc141 sto141 get144 zero144 alloc144 sto144 get146 zero146 alloc146 sto146 row1_154 row0_154 get158 fA158_0 fd158_0 fA158_1 fd158_1 fA158_2 fd158_2 fA158_3 fd158_3 bld158 zero158 alloc158 sto158 get159 zero159 alloc159 sto159 len159 idx159 app159 src159 nil159 row1_159 mk159 rowm159 row0_159 get161 zero161 alloc161 sto161 get162 fA162_0 fd162_0 fA162_1 fd162_1 bld162 zero162 alloc162 sto162 get163 zero163 alloc163 sto163 len163 idx163 app163 src163 nil163 row1_163 mk163 rowm163 row0_163 row1_173 row0_173 cvt3_5 cvt3_21 cvt22_3
end Go.Proofs.Tryd

