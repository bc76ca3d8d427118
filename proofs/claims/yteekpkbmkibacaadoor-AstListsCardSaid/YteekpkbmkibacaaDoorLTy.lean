import Derived.Test.YteekpkbmkibacaaDoorLEvF
import Derived.Test.YteekpkbmkibacaaDoorProg
/-! What is known of types. -/
namespace Go.Proofs.Tryd
set_option linter.unusedSimpArgs false
set_option linter.unusedVariables false
open Go Go.Proofs.Ev
theorem tO2 : tAgg prog 2 = some none := by kernel_rfl
theorem get2 (c : AV) (cs : List AV) : aGet prog 2 (c :: cs) = some c := by rw [aGet_one tO2]; rfl
theorem zero2 : aZero prog 2 = some (.val (.int .i64 0)) := by kernel_rfl
theorem alloc2 (σ : Sto) : aAlloc prog σ 2 = aNewVar σ (.val (.int .i64 0)) := alloc_eq (by kernel_rfl) σ
theorem sto2 (σ : Sto) (v p : AV) : aStore prog σ 2 v p = aStoreN σ 1 v p := aStore_eq (by kernel_rfl) σ v p
theorem tO3 : tAgg prog 3 = some none := by kernel_rfl
theorem get3 (c : AV) (cs : List AV) : aGet prog 3 (c :: cs) = some c := by rw [aGet_one tO3]; rfl
theorem zero3 : aZero prog 3 = some (.val (.int .i64 0)) := by kernel_rfl
theorem alloc3 (σ : Sto) : aAlloc prog σ 3 = aNewVar σ (.val (.int .i64 0)) := alloc_eq (by kernel_rfl) σ
theorem sto3 (σ : Sto) (v p : AV) : aStore prog σ 3 v p = aStoreN σ 1 v p := aStore_eq (by kernel_rfl) σ v p
theorem tO4 : tAgg prog 4 = some none := by kernel_rfl
theorem get4 (c : AV) (cs : List AV) : aGet prog 4 (c :: cs) = some c := by rw [aGet_one tO4]; rfl
theorem zero4 : aZero prog 4 = some (.val (.bool false)) := by kernel_rfl
theorem alloc4 (σ : Sto) : aAlloc prog σ 4 = aNewVar σ (.val (.bool false)) := alloc_eq (by kernel_rfl) σ
theorem sto4 (σ : Sto) (v p : AV) : aStore prog σ 4 v p = aStoreN σ 1 v p := aStore_eq (by kernel_rfl) σ v p
theorem tyBool4 : tyBool prog 4 = true := by kernel_rfl
theorem tO5 : tAgg prog 5 = some none := by kernel_rfl
theorem get5 (c : AV) (cs : List AV) : aGet prog 5 (c :: cs) = some c := by rw [aGet_one tO5]; rfl
theorem zero5 : aZero prog 5 = some (.val (.int .u8 0)) := by kernel_rfl
theorem alloc5 (σ : Sto) : aAlloc prog σ 5 = aNewVar σ (.val (.int .u8 0)) := alloc_eq (by kernel_rfl) σ
theorem sto5 (σ : Sto) (v p : AV) : aStore prog σ 5 v p = aStoreN σ 1 v p := aStore_eq (by kernel_rfl) σ v p
theorem tO9 : tAgg prog 9 = some none := by kernel_rfl
theorem get9 (c : AV) (cs : List AV) : aGet prog 9 (c :: cs) = some c := by rw [aGet_one tO9]; rfl
theorem zero9 : aZero prog 9 = some (.val (.string ⟨#[]⟩)) := by kernel_rfl
theorem alloc9 (σ : Sto) : aAlloc prog σ 9 = aNewVar σ (.val (.string ⟨#[]⟩)) := alloc_eq (by kernel_rfl) σ
theorem sto9 (σ : Sto) (v p : AV) : aStore prog σ 9 v p = aStoreN σ 1 v p := aStore_eq (by kernel_rfl) σ v p
theorem len9 (σ : Sto) (x : AV) : aLen prog σ 9 x = aLenStr x := aLen_str (by kernel_rfl) σ x
theorem tyStr9 : tyStr prog 9 = true := by kernel_rfl
theorem tO21 : tAgg prog 21 = some none := by kernel_rfl
theorem get21 (c : AV) (cs : List AV) : aGet prog 21 (c :: cs) = some c := by rw [aGet_one tO21]; rfl
theorem zero21 : aZero prog 21 = some (.val (.int .i32 0)) := by kernel_rfl
theorem alloc21 (σ : Sto) : aAlloc prog σ 21 = aNewVar σ (.val (.int .i32 0)) := alloc_eq (by kernel_rfl) σ
theorem sto21 (σ : Sto) (v p : AV) : aStore prog σ 21 v p = aStoreN σ 1 v p := aStore_eq (by kernel_rfl) σ v p
theorem tO22 : tAgg prog 22 = some none := by kernel_rfl
theorem get22 (c : AV) (cs : List AV) : aGet prog 22 (c :: cs) = some c := by rw [aGet_one tO22]; rfl
theorem zero22 : aZero prog 22 = some (.val (.int .u32 0)) := by kernel_rfl
theorem alloc22 (σ : Sto) : aAlloc prog σ 22 = aNewVar σ (.val (.int .u32 0)) := alloc_eq (by kernel_rfl) σ
theorem sto22 (σ : Sto) (v p : AV) : aStore prog σ 22 v p = aStoreN σ 1 v p := aStore_eq (by kernel_rfl) σ v p
theorem tO23 : tAgg prog 23 = some none := by kernel_rfl
theorem get23 (c : AV) (cs : List AV) : aGet prog 23 (c :: cs) = some c := by rw [aGet_one tO23]; rfl
theorem zero23 : aZero prog 23 = some (.nilsl) := by kernel_rfl
theorem alloc23 (σ : Sto) : aAlloc prog σ 23 = aNewVar σ (.nilsl) := alloc_eq (by kernel_rfl) σ
theorem sto23 (σ : Sto) (v p : AV) : aStore prog σ 23 v p = aStoreN σ 1 v p := aStore_eq (by kernel_rfl) σ v p
theorem len23 (σ : Sto) (x : AV) : aLen prog σ 23 x = aLenSl x := aLen_sl (by kernel_rfl) σ x
theorem idx23 (x i : AV) : aIndexAddr prog 23 x i = aAt 1 x i := aIndexAddr_eq (by kernel_rfl) x i
theorem app23 (σ : Sto) (u : TypeId) (nl : Bool) (es : List AV) (k : Nat) (x : AV) : aAppendO prog σ 23 u nl 1 es k x = (aSrcE prog u 1 x).bind fun ds => appAt σ nl 1 1 es k ds σ[k]? := aAppendO_eq (by kernel_rfl) σ nl es k x
theorem src23 (x : AV) : aSrcE prog 23 1 x = aSrcS 1 x := aSrcE_sl (by kernel_rfl) 1 x
theorem nil23 (σ : Sto) (u : TypeId) (y : AV) : aApp prog false σ 23 u .nilsl y = aAppendO prog (σ ++ [.cap 0 1]) 23 u true 1 [] σ.length y := aApp_nil (by kernel_rfl) (by decide) σ u y
theorem row23 {len : Nat} {parts : List (Nat × AV)} (hl : len * 1 ≤ 16777216) (hp : 0 < len) (hi : parts.map (·.1) = List.range len) (hv : ∀ p ∈ parts, p.2.cells.length = 1 ∧ p.2.cells.all AV.one = true) : aBuildRow prog 23 len parts = some (.sl 1 (parts.map (·.2))) := aBuildRow_eq (by kernel_rfl) hl hp hi hv
theorem row1_23 (σ : Sto) (v : AV) (h1 : v.cells.length = 1) (h2 : v.cells.all AV.one = true) : aRow prog false σ 23 1 [(0, v)] = some (.slf 1 [v], σ) := aRow_slf (by kernel_rfl) (by decide) (row23 (len := 1) (parts := [(0, v)]) (by decide) (by decide) rfl (by intro p hp; simp only [List.mem_singleton] at hp; subst hp; exact ⟨h1, h2⟩)) σ
theorem tM23 : tMk prog 23 = some ([.val (.int .u8 0)], 1, 1) := by kernel_rfl
theorem mk23 (σ : Sto) (k k1 : IntKind) (n : Int) : aMakeSlice prog σ 23 (.val (.int k n)) (.val (.int k1 n)) = if 0 ≤ n ∧ fits n.toNat 1 = true then some (.osl σ.length 0 n.toNat 1, σ ++ [.cells (aZeros [.val (.int .u8 0)] (n.toNat * 1))]) else none := aMakeSlice_eq tM23 σ k k1 n
theorem rowm23 (σ : Sto) (v : AV) (h0 : v.cells.length = 1) (h1 : v.cells.all AV.one = true) : aRow prog true σ 23 1 [(0, v)] = some (.osl σ.length 0 1 1, σ ++ [.cells v.cells]) := aRow_live tM23 (by decide) σ v h0 h1
theorem row0_23 (σ : Sto) : aRow prog false σ 23 0 [] = some (.slo false 1 [] σ.length, σ ++ [.cap 0 1]) := aRow_zero (by kernel_rfl) (by decide) σ
theorem tO24 : tAgg prog 24 = some none := by kernel_rfl
theorem get24 (c : AV) (cs : List AV) : aGet prog 24 (c :: cs) = some c := by rw [aGet_one tO24]; rfl
theorem zero24 : aZero prog 24 = some (.nilsl) := by kernel_rfl
theorem alloc24 (σ : Sto) : aAlloc prog σ 24 = aNewVar σ (.nilsl) := alloc_eq (by kernel_rfl) σ
theorem sto24 (σ : Sto) (v p : AV) : aStore prog σ 24 v p = aStoreN σ 1 v p := aStore_eq (by kernel_rfl) σ v p
theorem len24 (σ : Sto) (x : AV) : aLen prog σ 24 x = aLenSl x := aLen_sl (by kernel_rfl) σ x
theorem idx24 (x i : AV) : aIndexAddr prog 24 x i = aAt 2 x i := aIndexAddr_eq (by kernel_rfl) x i
theorem app24 (σ : Sto) (u : TypeId) (nl : Bool) (es : List AV) (k : Nat) (x : AV) : aAppendO prog σ 24 u nl 2 es k x = (aSrcE prog u 2 x).bind fun ds => appAt σ nl 2 24 es k ds σ[k]? := aAppendO_eq (by kernel_rfl) σ nl es k x
theorem src24 (x : AV) : aSrcE prog 24 2 x = aSrcS 2 x := aSrcE_sl (by kernel_rfl) 2 x
theorem nil24 (σ : Sto) (u : TypeId) (y : AV) : aApp prog false σ 24 u .nilsl y = aAppendO prog (σ ++ [.cap 0 2]) 24 u true 2 [] σ.length y := aApp_nil (by kernel_rfl) (by decide) σ u y
theorem row24 {len : Nat} {parts : List (Nat × AV)} (hl : len * 2 ≤ 16777216) (hp : 0 < len) (hi : parts.map (·.1) = List.range len) (hv : ∀ p ∈ parts, p.2.cells.length = 2 ∧ p.2.cells.all AV.one = true) : aBuildRow prog 24 len parts = some (.sl 2 (parts.map (·.2))) := aBuildRow_eq (by kernel_rfl) hl hp hi hv
theorem row1_24 (σ : Sto) (v : AV) (h1 : v.cells.length = 2) (h2 : v.cells.all AV.one = true) : aRow prog false σ 24 1 [(0, v)] = some (.sl 2 [v], σ) := aRow_sl (by kernel_rfl) (by decide) (row24 (len := 1) (parts := [(0, v)]) (by decide) (by decide) rfl (by intro p hp; simp only [List.mem_singleton] at hp; subst hp; exact ⟨h1, h2⟩)) σ
theorem tM24 : tMk prog 24 = some ([.val (.string ⟨#[]⟩), .val (.int .i64 0)], 2, 24) := by kernel_rfl
theorem mk24 (σ : Sto) (k k1 : IntKind) (n : Int) : aMakeSlice prog σ 24 (.val (.int k n)) (.val (.int k1 n)) = if 0 ≤ n ∧ fits n.toNat 24 = true then some (.osl σ.length 0 n.toNat 2, σ ++ [.cells (aZeros [.val (.string ⟨#[]⟩), .val (.int .i64 0)] (n.toNat * 2))]) else none := aMakeSlice_eq tM24 σ k k1 n
theorem rowm24 (σ : Sto) (v : AV) (h0 : v.cells.length = 2) (h1 : v.cells.all AV.one = true) : aRow prog true σ 24 1 [(0, v)] = some (.osl σ.length 0 1 2, σ ++ [.cells v.cells]) := aRow_live tM24 (by decide) σ v h0 h1
theorem row0_24 (σ : Sto) : aRow prog false σ 24 0 [] = some (.slo false 2 [] σ.length, σ ++ [.cap 0 2]) := aRow_zero (by kernel_rfl) (by decide) σ
theorem tA26 : tAgg prog 26 = some (some 2) := by kernel_rfl
theorem get26 (a0 a1 : AV) (l : List AV) : aGet prog 26 (a0 :: a1 :: l) = some (.agg [a0, a1]) := by rw [aGet_many tA26, if_pos (by simp)]; rfl
theorem fA26_0 (p : AV) : aFieldAddr prog 26 0 p = aOff 0 p := aFieldAddr_eq (t := 3) (by kernel_rfl) p
theorem fd26_0 (cs : List AV) : aField prog 26 0 (.agg cs) = cs[0]? := aField_eq (t := 3) (r := none) (by kernel_rfl) (by kernel_rfl) cs
theorem fA26_1 (p : AV) : aFieldAddr prog 26 1 p = aOff 1 p := aFieldAddr_eq (t := 3) (by kernel_rfl) p
theorem fd26_1 (cs : List AV) : aField prog 26 1 (.agg cs) = cs[1]? := aField_eq (t := 3) (r := none) (by kernel_rfl) (by kernel_rfl) cs
theorem bld26 (parts : List (Nat × AV)) : aBuild prog 26 parts = (aFill (fun j => [(0, 1), (1, 1)][j]?) [.val (.int .i64 0), .val (.int .i64 0)] parts).map .agg := aBuild_eq (by kernel_rfl) parts
theorem zero26 : aZero prog 26 = some (.agg [.val (.int .i64 0), .val (.int .i64 0)]) := by kernel_rfl
theorem alloc26 (σ : Sto) : aAlloc prog σ 26 = aNewVar σ (.agg [.val (.int .i64 0), .val (.int .i64 0)]) := alloc_eq (by kernel_rfl) σ
theorem sto26 (σ : Sto) (v p : AV) : aStore prog σ 26 v p = aStoreN σ 2 v p := aStore_eq (by kernel_rfl) σ v p
theorem tA28 : tAgg prog 28 = some (some 2) := by kernel_rfl
theorem get28 (a0 a1 : AV) (l : List AV) : aGet prog 28 (a0 :: a1 :: l) = some (.agg [a0, a1]) := by rw [aGet_many tA28, if_pos (by simp)]; rfl
theorem fA28_0 (p : AV) : aFieldAddr prog 28 0 p = aOff 0 p := aFieldAddr_eq (t := 9) (by kernel_rfl) p
theorem fd28_0 (cs : List AV) : aField prog 28 0 (.agg cs) = cs[0]? := aField_eq (t := 9) (r := none) (by kernel_rfl) (by kernel_rfl) cs
theorem fA28_1 (p : AV) : aFieldAddr prog 28 1 p = aOff 1 p := aFieldAddr_eq (t := 3) (by kernel_rfl) p
theorem fd28_1 (cs : List AV) : aField prog 28 1 (.agg cs) = cs[1]? := aField_eq (t := 3) (r := none) (by kernel_rfl) (by kernel_rfl) cs
theorem bld28 (parts : List (Nat × AV)) : aBuild prog 28 parts = (aFill (fun j => [(0, 1), (1, 1)][j]?) [.val (.string ⟨#[]⟩), .val (.int .i64 0)] parts).map .agg := aBuild_eq (by kernel_rfl) parts
theorem zero28 : aZero prog 28 = some (.agg [.val (.string ⟨#[]⟩), .val (.int .i64 0)]) := by kernel_rfl
theorem alloc28 (σ : Sto) : aAlloc prog σ 28 = aNewVar σ (.agg [.val (.string ⟨#[]⟩), .val (.int .i64 0)]) := alloc_eq (by kernel_rfl) σ
theorem sto28 (σ : Sto) (v p : AV) : aStore prog σ 28 v p = aStoreN σ 2 v p := aStore_eq (by kernel_rfl) σ v p
theorem tA30 : tAgg prog 30 = some (some 4) := by kernel_rfl
theorem get30 (a0 a1 a2 a3 : AV) (l : List AV) : aGet prog 30 (a0 :: a1 :: a2 :: a3 :: l) = some (.agg [a0, a1, a2, a3]) := by rw [aGet_many tA30, if_pos (by simp)]; rfl
theorem fA30_0 (p : AV) : aFieldAddr prog 30 0 p = aOff 0 p := aFieldAddr_eq (t := 28) (by kernel_rfl) p
theorem fd30_0 (cs : List AV) : aField prog 30 0 (.agg cs) = some (.agg ((cs.drop 0).take 2)) := aField_eq (t := 28) (r := some 2) (by kernel_rfl) (by kernel_rfl) cs
theorem fA30_1 (p : AV) : aFieldAddr prog 30 1 p = aOff 2 p := aFieldAddr_eq (t := 26) (by kernel_rfl) p
theorem fd30_1 (cs : List AV) : aField prog 30 1 (.agg cs) = some (.agg ((cs.drop 2).take 2)) := aField_eq (t := 26) (r := some 2) (by kernel_rfl) (by kernel_rfl) cs
theorem bld30 (parts : List (Nat × AV)) : aBuild prog 30 parts = (aFill (fun j => [(0, 2), (2, 2)][j]?) [.val (.string ⟨#[]⟩), .val (.int .i64 0), .val (.int .i64 0), .val (.int .i64 0)] parts).map .agg := aBuild_eq (by kernel_rfl) parts
theorem zero30 : aZero prog 30 = some (.agg [.val (.string ⟨#[]⟩), .val (.int .i64 0), .val (.int .i64 0), .val (.int .i64 0)]) := by kernel_rfl
theorem alloc30 (σ : Sto) : aAlloc prog σ 30 = aNewVar σ (.agg [.val (.string ⟨#[]⟩), .val (.int .i64 0), .val (.int .i64 0), .val (.int .i64 0)]) := alloc_eq (by kernel_rfl) σ
theorem sto30 (σ : Sto) (v p : AV) : aStore prog σ 30 v p = aStoreN σ 4 v p := aStore_eq (by kernel_rfl) σ v p
theorem tO31 : tAgg prog 31 = some none := by kernel_rfl
theorem get31 (c : AV) (cs : List AV) : aGet prog 31 (c :: cs) = some c := by rw [aGet_one tO31]; rfl
theorem zero31 : aZero prog 31 = some (.nilsl) := by kernel_rfl
theorem alloc31 (σ : Sto) : aAlloc prog σ 31 = aNewVar σ (.nilsl) := alloc_eq (by kernel_rfl) σ
theorem sto31 (σ : Sto) (v p : AV) : aStore prog σ 31 v p = aStoreN σ 1 v p := aStore_eq (by kernel_rfl) σ v p
theorem len31 (σ : Sto) (x : AV) : aLen prog σ 31 x = aLenSl x := aLen_sl (by kernel_rfl) σ x
theorem idx31 (x i : AV) : aIndexAddr prog 31 x i = aAt 4 x i := aIndexAddr_eq (by kernel_rfl) x i
theorem app31 (σ : Sto) (u : TypeId) (nl : Bool) (es : List AV) (k : Nat) (x : AV) : aAppendO prog σ 31 u nl 4 es k x = (aSrcE prog u 4 x).bind fun ds => appAt σ nl 4 40 es k ds σ[k]? := aAppendO_eq (by kernel_rfl) σ nl es k x
theorem src31 (x : AV) : aSrcE prog 31 4 x = aSrcS 4 x := aSrcE_sl (by kernel_rfl) 4 x
theorem nil31 (σ : Sto) (u : TypeId) (y : AV) : aApp prog false σ 31 u .nilsl y = aAppendO prog (σ ++ [.cap 0 4]) 31 u true 4 [] σ.length y := aApp_nil (by kernel_rfl) (by decide) σ u y
theorem row31 {len : Nat} {parts : List (Nat × AV)} (hl : len * 4 ≤ 16777216) (hp : 0 < len) (hi : parts.map (·.1) = List.range len) (hv : ∀ p ∈ parts, p.2.cells.length = 4 ∧ p.2.cells.all AV.one = true) : aBuildRow prog 31 len parts = some (.sl 4 (parts.map (·.2))) := aBuildRow_eq (by kernel_rfl) hl hp hi hv
theorem row1_31 (σ : Sto) (v : AV) (h1 : v.cells.length = 4) (h2 : v.cells.all AV.one = true) : aRow prog false σ 31 1 [(0, v)] = some (.sl 4 [v], σ) := aRow_sl (by kernel_rfl) (by decide) (row31 (len := 1) (parts := [(0, v)]) (by decide) (by decide) rfl (by intro p hp; simp only [List.mem_singleton] at hp; subst hp; exact ⟨h1, h2⟩)) σ
theorem tM31 : tMk prog 31 = some ([.val (.string ⟨#[]⟩), .val (.int .i64 0), .val (.int .i64 0), .val (.int .i64 0)], 4, 40) := by kernel_rfl
theorem mk31 (σ : Sto) (k k1 : IntKind) (n : Int) : aMakeSlice prog σ 31 (.val (.int k n)) (.val (.int k1 n)) = if 0 ≤ n ∧ fits n.toNat 40 = true then some (.osl σ.length 0 n.toNat 4, σ ++ [.cells (aZeros [.val (.string ⟨#[]⟩), .val (.int .i64 0), .val (.int .i64 0), .val (.int .i64 0)] (n.toNat * 4))]) else none := aMakeSlice_eq tM31 σ k k1 n
theorem rowm31 (σ : Sto) (v : AV) (h0 : v.cells.length = 4) (h1 : v.cells.all AV.one = true) : aRow prog true σ 31 1 [(0, v)] = some (.osl σ.length 0 1 4, σ ++ [.cells v.cells]) := aRow_live tM31 (by decide) σ v h0 h1
theorem row0_31 (σ : Sto) : aRow prog false σ 31 0 [] = some (.slo false 4 [] σ.length, σ ++ [.cap 0 4]) := aRow_zero (by kernel_rfl) (by decide) σ
theorem tO32 : tAgg prog 32 = some none := by kernel_rfl
theorem get32 (c : AV) (cs : List AV) : aGet prog 32 (c :: cs) = some c := by rw [aGet_one tO32]; rfl
theorem zero32 : aZero prog 32 = some (.nilsl) := by kernel_rfl
theorem alloc32 (σ : Sto) : aAlloc prog σ 32 = aNewVar σ (.nilsl) := alloc_eq (by kernel_rfl) σ
theorem sto32 (σ : Sto) (v p : AV) : aStore prog σ 32 v p = aStoreN σ 1 v p := aStore_eq (by kernel_rfl) σ v p
theorem len32 (σ : Sto) (x : AV) : aLen prog σ 32 x = aLenSl x := aLen_sl (by kernel_rfl) σ x
theorem idx32 (x i : AV) : aIndexAddr prog 32 x i = aAt 7 x i := aIndexAddr_eq (by kernel_rfl) x i
theorem app32 (σ : Sto) (u : TypeId) (nl : Bool) (es : List AV) (k : Nat) (x : AV) : aAppendO prog σ 32 u nl 7 es k x = (aSrcE prog u 7 x).bind fun ds => appAt σ nl 7 64 es k ds σ[k]? := aAppendO_eq (by kernel_rfl) σ nl es k x
theorem src32 (x : AV) : aSrcE prog 32 7 x = aSrcS 7 x := aSrcE_sl (by kernel_rfl) 7 x
theorem nil32 (σ : Sto) (u : TypeId) (y : AV) : aApp prog false σ 32 u .nilsl y = aAppendO prog (σ ++ [.cap 0 7]) 32 u true 7 [] σ.length y := aApp_nil (by kernel_rfl) (by decide) σ u y
theorem row32 {len : Nat} {parts : List (Nat × AV)} (hl : len * 7 ≤ 16777216) (hp : 0 < len) (hi : parts.map (·.1) = List.range len) (hv : ∀ p ∈ parts, p.2.cells.length = 7 ∧ p.2.cells.all AV.one = true) : aBuildRow prog 32 len parts = some (.sl 7 (parts.map (·.2))) := aBuildRow_eq (by kernel_rfl) hl hp hi hv
theorem row1_32 (σ : Sto) (v : AV) (h1 : v.cells.length = 7) (h2 : v.cells.all AV.one = true) : aRow prog false σ 32 1 [(0, v)] = some (.sl 7 [v], σ) := aRow_sl (by kernel_rfl) (by decide) (row32 (len := 1) (parts := [(0, v)]) (by decide) (by decide) rfl (by intro p hp; simp only [List.mem_singleton] at hp; subst hp; exact ⟨h1, h2⟩)) σ
theorem tM32 : tMk prog 32 = some ([.val (.int .i64 0), .val (.int .i64 0), .val (.int .i64 0), .val (.int .i64 0), .val (.int .i32 0), .val (.int .i32 0), .nilsl], 7, 64) := by kernel_rfl
theorem mk32 (σ : Sto) (k k1 : IntKind) (n : Int) : aMakeSlice prog σ 32 (.val (.int k n)) (.val (.int k1 n)) = if 0 ≤ n ∧ fits n.toNat 64 = true then some (.osl σ.length 0 n.toNat 7, σ ++ [.cells (aZeros [.val (.int .i64 0), .val (.int .i64 0), .val (.int .i64 0), .val (.int .i64 0), .val (.int .i32 0), .val (.int .i32 0), .nilsl] (n.toNat * 7))]) else none := aMakeSlice_eq tM32 σ k k1 n
theorem rowm32 (σ : Sto) (v : AV) (h0 : v.cells.length = 7) (h1 : v.cells.all AV.one = true) : aRow prog true σ 32 1 [(0, v)] = some (.osl σ.length 0 1 7, σ ++ [.cells v.cells]) := aRow_live tM32 (by decide) σ v h0 h1
theorem row0_32 (σ : Sto) : aRow prog false σ 32 0 [] = some (.slo false 7 [] σ.length, σ ++ [.cap 0 7]) := aRow_zero (by kernel_rfl) (by decide) σ
theorem tA34 : tAgg prog 34 = some (some 4) := by kernel_rfl
theorem get34 (a0 a1 a2 a3 : AV) (l : List AV) : aGet prog 34 (a0 :: a1 :: a2 :: a3 :: l) = some (.agg [a0, a1, a2, a3]) := by rw [aGet_many tA34, if_pos (by simp)]; rfl
theorem fA34_0 (p : AV) : aFieldAddr prog 34 0 p = aOff 0 p := aFieldAddr_eq (t := 9) (by kernel_rfl) p
theorem fd34_0 (cs : List AV) : aField prog 34 0 (.agg cs) = cs[0]? := aField_eq (t := 9) (r := none) (by kernel_rfl) (by kernel_rfl) cs
theorem fA34_1 (p : AV) : aFieldAddr prog 34 1 p = aOff 1 p := aFieldAddr_eq (t := 24) (by kernel_rfl) p
theorem fd34_1 (cs : List AV) : aField prog 34 1 (.agg cs) = cs[1]? := aField_eq (t := 24) (r := none) (by kernel_rfl) (by kernel_rfl) cs
theorem fA34_2 (p : AV) : aFieldAddr prog 34 2 p = aOff 2 p := aFieldAddr_eq (t := 31) (by kernel_rfl) p
theorem fd34_2 (cs : List AV) : aField prog 34 2 (.agg cs) = cs[2]? := aField_eq (t := 31) (r := none) (by kernel_rfl) (by kernel_rfl) cs
theorem fA34_3 (p : AV) : aFieldAddr prog 34 3 p = aOff 3 p := aFieldAddr_eq (t := 32) (by kernel_rfl) p
theorem fd34_3 (cs : List AV) : aField prog 34 3 (.agg cs) = cs[3]? := aField_eq (t := 32) (r := none) (by kernel_rfl) (by kernel_rfl) cs
theorem bld34 (parts : List (Nat × AV)) : aBuild prog 34 parts = (aFill (fun j => [(0, 1), (1, 1), (2, 1), (3, 1)][j]?) [.val (.string ⟨#[]⟩), .nilsl, .nilsl, .nilsl] parts).map .agg := aBuild_eq (by kernel_rfl) parts
theorem zero34 : aZero prog 34 = some (.agg [.val (.string ⟨#[]⟩), .nilsl, .nilsl, .nilsl]) := by kernel_rfl
theorem alloc34 (σ : Sto) : aAlloc prog σ 34 = aNewVar σ (.agg [.val (.string ⟨#[]⟩), .nilsl, .nilsl, .nilsl]) := alloc_eq (by kernel_rfl) σ
theorem sto34 (σ : Sto) (v p : AV) : aStore prog σ 34 v p = aStoreN σ 4 v p := aStore_eq (by kernel_rfl) σ v p
theorem tO35 : tAgg prog 35 = some none := by kernel_rfl
theorem get35 (c : AV) (cs : List AV) : aGet prog 35 (c :: cs) = some c := by rw [aGet_one tO35]; rfl
theorem zero35 : aZero prog 35 = some (.nilsl) := by kernel_rfl
theorem alloc35 (σ : Sto) : aAlloc prog σ 35 = aNewVar σ (.nilsl) := alloc_eq (by kernel_rfl) σ
theorem sto35 (σ : Sto) (v p : AV) : aStore prog σ 35 v p = aStoreN σ 1 v p := aStore_eq (by kernel_rfl) σ v p
theorem len35 (σ : Sto) (x : AV) : aLen prog σ 35 x = aLenSl x := aLen_sl (by kernel_rfl) σ x
theorem idx35 (x i : AV) : aIndexAddr prog 35 x i = aAt 4 x i := aIndexAddr_eq (by kernel_rfl) x i
theorem app35 (σ : Sto) (u : TypeId) (nl : Bool) (es : List AV) (k : Nat) (x : AV) : aAppendO prog σ 35 u nl 4 es k x = (aSrcE prog u 4 x).bind fun ds => appAt σ nl 4 88 es k ds σ[k]? := aAppendO_eq (by kernel_rfl) σ nl es k x
theorem src35 (x : AV) : aSrcE prog 35 4 x = aSrcS 4 x := aSrcE_sl (by kernel_rfl) 4 x
theorem nil35 (σ : Sto) (u : TypeId) (y : AV) : aApp prog false σ 35 u .nilsl y = aAppendO prog (σ ++ [.cap 0 4]) 35 u true 4 [] σ.length y := aApp_nil (by kernel_rfl) (by decide) σ u y
theorem row35 {len : Nat} {parts : List (Nat × AV)} (hl : len * 4 ≤ 16777216) (hp : 0 < len) (hi : parts.map (·.1) = List.range len) (hv : ∀ p ∈ parts, p.2.cells.length = 4 ∧ p.2.cells.all AV.one = true) : aBuildRow prog 35 len parts = some (.sl 4 (parts.map (·.2))) := aBuildRow_eq (by kernel_rfl) hl hp hi hv
theorem row1_35 (σ : Sto) (v : AV) (h1 : v.cells.length = 4) (h2 : v.cells.all AV.one = true) : aRow prog false σ 35 1 [(0, v)] = some (.sl 4 [v], σ) := aRow_sl (by kernel_rfl) (by decide) (row35 (len := 1) (parts := [(0, v)]) (by decide) (by decide) rfl (by intro p hp; simp only [List.mem_singleton] at hp; subst hp; exact ⟨h1, h2⟩)) σ
theorem tM35 : tMk prog 35 = some ([.val (.string ⟨#[]⟩), .nilsl, .nilsl, .nilsl], 4, 88) := by kernel_rfl
theorem mk35 (σ : Sto) (k k1 : IntKind) (n : Int) : aMakeSlice prog σ 35 (.val (.int k n)) (.val (.int k1 n)) = if 0 ≤ n ∧ fits n.toNat 88 = true then some (.osl σ.length 0 n.toNat 4, σ ++ [.cells (aZeros [.val (.string ⟨#[]⟩), .nilsl, .nilsl, .nilsl] (n.toNat * 4))]) else none := aMakeSlice_eq tM35 σ k k1 n
theorem rowm35 (σ : Sto) (v : AV) (h0 : v.cells.length = 4) (h1 : v.cells.all AV.one = true) : aRow prog true σ 35 1 [(0, v)] = some (.osl σ.length 0 1 4, σ ++ [.cells v.cells]) := aRow_live tM35 (by decide) σ v h0 h1
theorem row0_35 (σ : Sto) : aRow prog false σ 35 0 [] = some (.slo false 4 [] σ.length, σ ++ [.cap 0 4]) := aRow_zero (by kernel_rfl) (by decide) σ
theorem tA37 : tAgg prog 37 = some (some 1) := by kernel_rfl
theorem get37 (a0 : AV) (l : List AV) : aGet prog 37 (a0 :: l) = some (.agg [a0]) := by rw [aGet_many tA37, if_pos (by simp)]; rfl
theorem fA37_0 (p : AV) : aFieldAddr prog 37 0 p = aOff 0 p := aFieldAddr_eq (t := 35) (by kernel_rfl) p
theorem fd37_0 (cs : List AV) : aField prog 37 0 (.agg cs) = cs[0]? := aField_eq (t := 35) (r := none) (by kernel_rfl) (by kernel_rfl) cs
theorem bld37 (parts : List (Nat × AV)) : aBuild prog 37 parts = (aFill (fun j => [(0, 1)][j]?) [.nilsl] parts).map .agg := aBuild_eq (by kernel_rfl) parts
theorem zero37 : aZero prog 37 = some (.agg [.nilsl]) := by kernel_rfl
theorem alloc37 (σ : Sto) : aAlloc prog σ 37 = aNewVar σ (.agg [.nilsl]) := alloc_eq (by kernel_rfl) σ
theorem sto37 (σ : Sto) (v p : AV) : aStore prog σ 37 v p = aStoreN σ 1 v p := aStore_eq (by kernel_rfl) σ v p
theorem tO41 : tAgg prog 41 = some none := by kernel_rfl
theorem get41 (c : AV) (cs : List AV) : aGet prog 41 (c :: cs) = some c := by rw [aGet_one tO41]; rfl
theorem zero41 : aZero prog 41 = some (.nilsl) := by kernel_rfl
theorem alloc41 (σ : Sto) : aAlloc prog σ 41 = aNewVar σ (.nilsl) := alloc_eq (by kernel_rfl) σ
theorem sto41 (σ : Sto) (v p : AV) : aStore prog σ 41 v p = aStoreN σ 1 v p := aStore_eq (by kernel_rfl) σ v p
theorem len41 (σ : Sto) (x : AV) : aLen prog σ 41 x = aLenSl x := aLen_sl (by kernel_rfl) σ x
theorem idx41 (x i : AV) : aIndexAddr prog 41 x i = aAt 5 x i := aIndexAddr_eq (by kernel_rfl) x i
theorem app41 (σ : Sto) (u : TypeId) (nl : Bool) (es : List AV) (k : Nat) (x : AV) : aAppendO prog σ 41 u nl 5 es k x = (aSrcE prog u 5 x).bind fun ds => appAt σ nl 5 64 es k ds σ[k]? := aAppendO_eq (by kernel_rfl) σ nl es k x
theorem src41 (x : AV) : aSrcE prog 41 5 x = aSrcS 5 x := aSrcE_sl (by kernel_rfl) 5 x
theorem nil41 (σ : Sto) (u : TypeId) (y : AV) : aApp prog false σ 41 u .nilsl y = aAppendO prog (σ ++ [.cap 0 5]) 41 u true 5 [] σ.length y := aApp_nil (by kernel_rfl) (by decide) σ u y
theorem row41 {len : Nat} {parts : List (Nat × AV)} (hl : len * 5 ≤ 16777216) (hp : 0 < len) (hi : parts.map (·.1) = List.range len) (hv : ∀ p ∈ parts, p.2.cells.length = 5 ∧ p.2.cells.all AV.one = true) : aBuildRow prog 41 len parts = some (.sl 5 (parts.map (·.2))) := aBuildRow_eq (by kernel_rfl) hl hp hi hv
theorem row1_41 (σ : Sto) (v : AV) (h1 : v.cells.length = 5) (h2 : v.cells.all AV.one = true) : aRow prog false σ 41 1 [(0, v)] = some (.sl 5 [v], σ) := aRow_sl (by kernel_rfl) (by decide) (row41 (len := 1) (parts := [(0, v)]) (by decide) (by decide) rfl (by intro p hp; simp only [List.mem_singleton] at hp; subst hp; exact ⟨h1, h2⟩)) σ
theorem tM41 : tMk prog 41 = some ([.val (.int .i64 0), .val (.int .i64 0), .val (.int .i64 0), .val (.string ⟨#[]⟩), .nilsl], 5, 64) := by kernel_rfl
theorem mk41 (σ : Sto) (k k1 : IntKind) (n : Int) : aMakeSlice prog σ 41 (.val (.int k n)) (.val (.int k1 n)) = if 0 ≤ n ∧ fits n.toNat 64 = true then some (.osl σ.length 0 n.toNat 5, σ ++ [.cells (aZeros [.val (.int .i64 0), .val (.int .i64 0), .val (.int .i64 0), .val (.string ⟨#[]⟩), .nilsl] (n.toNat * 5))]) else none := aMakeSlice_eq tM41 σ k k1 n
theorem rowm41 (σ : Sto) (v : AV) (h0 : v.cells.length = 5) (h1 : v.cells.all AV.one = true) : aRow prog true σ 41 1 [(0, v)] = some (.osl σ.length 0 1 5, σ ++ [.cells v.cells]) := aRow_live tM41 (by decide) σ v h0 h1
theorem row0_41 (σ : Sto) : aRow prog false σ 41 0 [] = some (.slo false 5 [] σ.length, σ ++ [.cap 0 5]) := aRow_zero (by kernel_rfl) (by decide) σ
theorem tA43 : tAgg prog 43 = some (some 5) := by kernel_rfl
theorem get43 (a0 a1 a2 a3 a4 : AV) (l : List AV) : aGet prog 43 (a0 :: a1 :: a2 :: a3 :: a4 :: l) = some (.agg [a0, a1, a2, a3, a4]) := by rw [aGet_many tA43, if_pos (by simp)]; rfl
theorem fA43_0 (p : AV) : aFieldAddr prog 43 0 p = aOff 0 p := aFieldAddr_eq (t := 3) (by kernel_rfl) p
theorem fd43_0 (cs : List AV) : aField prog 43 0 (.agg cs) = cs[0]? := aField_eq (t := 3) (r := none) (by kernel_rfl) (by kernel_rfl) cs
theorem fA43_1 (p : AV) : aFieldAddr prog 43 1 p = aOff 1 p := aFieldAddr_eq (t := 3) (by kernel_rfl) p
theorem fd43_1 (cs : List AV) : aField prog 43 1 (.agg cs) = cs[1]? := aField_eq (t := 3) (r := none) (by kernel_rfl) (by kernel_rfl) cs
theorem fA43_2 (p : AV) : aFieldAddr prog 43 2 p = aOff 2 p := aFieldAddr_eq (t := 2) (by kernel_rfl) p
theorem fd43_2 (cs : List AV) : aField prog 43 2 (.agg cs) = cs[2]? := aField_eq (t := 2) (r := none) (by kernel_rfl) (by kernel_rfl) cs
theorem fA43_3 (p : AV) : aFieldAddr prog 43 3 p = aOff 3 p := aFieldAddr_eq (t := 9) (by kernel_rfl) p
theorem fd43_3 (cs : List AV) : aField prog 43 3 (.agg cs) = cs[3]? := aField_eq (t := 9) (r := none) (by kernel_rfl) (by kernel_rfl) cs
theorem fA43_4 (p : AV) : aFieldAddr prog 43 4 p = aOff 4 p := aFieldAddr_eq (t := 41) (by kernel_rfl) p
theorem fd43_4 (cs : List AV) : aField prog 43 4 (.agg cs) = cs[4]? := aField_eq (t := 41) (r := none) (by kernel_rfl) (by kernel_rfl) cs
theorem bld43 (parts : List (Nat × AV)) : aBuild prog 43 parts = (aFill (fun j => [(0, 1), (1, 1), (2, 1), (3, 1), (4, 1)][j]?) [.val (.int .i64 0), .val (.int .i64 0), .val (.int .i64 0), .val (.string ⟨#[]⟩), .nilsl] parts).map .agg := aBuild_eq (by kernel_rfl) parts
theorem zero43 : aZero prog 43 = some (.agg [.val (.int .i64 0), .val (.int .i64 0), .val (.int .i64 0), .val (.string ⟨#[]⟩), .nilsl]) := by kernel_rfl
theorem alloc43 (σ : Sto) : aAlloc prog σ 43 = aNewVar σ (.agg [.val (.int .i64 0), .val (.int .i64 0), .val (.int .i64 0), .val (.string ⟨#[]⟩), .nilsl]) := alloc_eq (by kernel_rfl) σ
theorem sto43 (σ : Sto) (v p : AV) : aStore prog σ 43 v p = aStoreN σ 5 v p := aStore_eq (by kernel_rfl) σ v p
theorem tO45 : tAgg prog 45 = some none := by kernel_rfl
theorem get45 (c : AV) (cs : List AV) : aGet prog 45 (c :: cs) = some c := by rw [aGet_one tO45]; rfl
theorem zero45 : aZero prog 45 = some (.nilsl) := by kernel_rfl
theorem alloc45 (σ : Sto) : aAlloc prog σ 45 = aNewVar σ (.nilsl) := alloc_eq (by kernel_rfl) σ
theorem sto45 (σ : Sto) (v p : AV) : aStore prog σ 45 v p = aStoreN σ 1 v p := aStore_eq (by kernel_rfl) σ v p
theorem len45 (σ : Sto) (x : AV) : aLen prog σ 45 x = aLenSl x := aLen_sl (by kernel_rfl) σ x
theorem idx45 (x i : AV) : aIndexAddr prog 45 x i = aAt 5 x i := aIndexAddr_eq (by kernel_rfl) x i
theorem app45 (σ : Sto) (u : TypeId) (nl : Bool) (es : List AV) (k : Nat) (x : AV) : aAppendO prog σ 45 u nl 5 es k x = (aSrcE prog u 5 x).bind fun ds => appAt σ nl 5 64 es k ds σ[k]? := aAppendO_eq (by kernel_rfl) σ nl es k x
theorem src45 (x : AV) : aSrcE prog 45 5 x = aSrcS 5 x := aSrcE_sl (by kernel_rfl) 5 x
theorem nil45 (σ : Sto) (u : TypeId) (y : AV) : aApp prog false σ 45 u .nilsl y = aAppendO prog (σ ++ [.cap 0 5]) 45 u true 5 [] σ.length y := aApp_nil (by kernel_rfl) (by decide) σ u y
theorem row45 {len : Nat} {parts : List (Nat × AV)} (hl : len * 5 ≤ 16777216) (hp : 0 < len) (hi : parts.map (·.1) = List.range len) (hv : ∀ p ∈ parts, p.2.cells.length = 5 ∧ p.2.cells.all AV.one = true) : aBuildRow prog 45 len parts = some (.sl 5 (parts.map (·.2))) := aBuildRow_eq (by kernel_rfl) hl hp hi hv
theorem row1_45 (σ : Sto) (v : AV) (h1 : v.cells.length = 5) (h2 : v.cells.all AV.one = true) : aRow prog false σ 45 1 [(0, v)] = some (.sl 5 [v], σ) := aRow_sl (by kernel_rfl) (by decide) (row45 (len := 1) (parts := [(0, v)]) (by decide) (by decide) rfl (by intro p hp; simp only [List.mem_singleton] at hp; subst hp; exact ⟨h1, h2⟩)) σ
theorem tM45 : tMk prog 45 = some ([.val (.int .i64 0), .val (.int .i64 0), .val (.int .i64 0), .val (.string ⟨#[]⟩), .nilsl], 5, 64) := by kernel_rfl
theorem mk45 (σ : Sto) (k k1 : IntKind) (n : Int) : aMakeSlice prog σ 45 (.val (.int k n)) (.val (.int k1 n)) = if 0 ≤ n ∧ fits n.toNat 64 = true then some (.osl σ.length 0 n.toNat 5, σ ++ [.cells (aZeros [.val (.int .i64 0), .val (.int .i64 0), .val (.int .i64 0), .val (.string ⟨#[]⟩), .nilsl] (n.toNat * 5))]) else none := aMakeSlice_eq tM45 σ k k1 n
theorem rowm45 (σ : Sto) (v : AV) (h0 : v.cells.length = 5) (h1 : v.cells.all AV.one = true) : aRow prog true σ 45 1 [(0, v)] = some (.osl σ.length 0 1 5, σ ++ [.cells v.cells]) := aRow_live tM45 (by decide) σ v h0 h1
theorem row0_45 (σ : Sto) : aRow prog false σ 45 0 [] = some (.slo false 5 [] σ.length, σ ++ [.cap 0 5]) := aRow_zero (by kernel_rfl) (by decide) σ
theorem tA47 : tAgg prog 47 = some (some 5) := by kernel_rfl
theorem get47 (a0 a1 a2 a3 a4 : AV) (l : List AV) : aGet prog 47 (a0 :: a1 :: a2 :: a3 :: a4 :: l) = some (.agg [a0, a1, a2, a3, a4]) := by rw [aGet_many tA47, if_pos (by simp)]; rfl
theorem fA47_0 (p : AV) : aFieldAddr prog 47 0 p = aOff 0 p := aFieldAddr_eq (t := 3) (by kernel_rfl) p
theorem fd47_0 (cs : List AV) : aField prog 47 0 (.agg cs) = cs[0]? := aField_eq (t := 3) (r := none) (by kernel_rfl) (by kernel_rfl) cs
theorem fA47_1 (p : AV) : aFieldAddr prog 47 1 p = aOff 1 p := aFieldAddr_eq (t := 3) (by kernel_rfl) p
theorem fd47_1 (cs : List AV) : aField prog 47 1 (.agg cs) = cs[1]? := aField_eq (t := 3) (r := none) (by kernel_rfl) (by kernel_rfl) cs
theorem fA47_2 (p : AV) : aFieldAddr prog 47 2 p = aOff 2 p := aFieldAddr_eq (t := 2) (by kernel_rfl) p
theorem fd47_2 (cs : List AV) : aField prog 47 2 (.agg cs) = cs[2]? := aField_eq (t := 2) (r := none) (by kernel_rfl) (by kernel_rfl) cs
theorem fA47_3 (p : AV) : aFieldAddr prog 47 3 p = aOff 3 p := aFieldAddr_eq (t := 9) (by kernel_rfl) p
theorem fd47_3 (cs : List AV) : aField prog 47 3 (.agg cs) = cs[3]? := aField_eq (t := 9) (r := none) (by kernel_rfl) (by kernel_rfl) cs
theorem fA47_4 (p : AV) : aFieldAddr prog 47 4 p = aOff 4 p := aFieldAddr_eq (t := 45) (by kernel_rfl) p
theorem fd47_4 (cs : List AV) : aField prog 47 4 (.agg cs) = cs[4]? := aField_eq (t := 45) (r := none) (by kernel_rfl) (by kernel_rfl) cs
theorem bld47 (parts : List (Nat × AV)) : aBuild prog 47 parts = (aFill (fun j => [(0, 1), (1, 1), (2, 1), (3, 1), (4, 1)][j]?) [.val (.int .i64 0), .val (.int .i64 0), .val (.int .i64 0), .val (.string ⟨#[]⟩), .nilsl] parts).map .agg := aBuild_eq (by kernel_rfl) parts
theorem zero47 : aZero prog 47 = some (.agg [.val (.int .i64 0), .val (.int .i64 0), .val (.int .i64 0), .val (.string ⟨#[]⟩), .nilsl]) := by kernel_rfl
theorem alloc47 (σ : Sto) : aAlloc prog σ 47 = aNewVar σ (.agg [.val (.int .i64 0), .val (.int .i64 0), .val (.int .i64 0), .val (.string ⟨#[]⟩), .nilsl]) := alloc_eq (by kernel_rfl) σ
theorem sto47 (σ : Sto) (v p : AV) : aStore prog σ 47 v p = aStoreN σ 5 v p := aStore_eq (by kernel_rfl) σ v p
theorem tO51 : tAgg prog 51 = some none := by kernel_rfl
theorem get51 (c : AV) (cs : List AV) : aGet prog 51 (c :: cs) = some c := by rw [aGet_one tO51]; rfl
theorem zero51 : aZero prog 51 = some (.val .nilFunc) := by kernel_rfl
theorem alloc51 (σ : Sto) : aAlloc prog σ 51 = aNewVar σ (.val .nilFunc) := alloc_eq (by kernel_rfl) σ
theorem sto51 (σ : Sto) (v p : AV) : aStore prog σ 51 v p = aStoreN σ 1 v p := aStore_eq (by kernel_rfl) σ v p
theorem tO54 : tAgg prog 54 = some none := by kernel_rfl
theorem get54 (c : AV) (cs : List AV) : aGet prog 54 (c :: cs) = some c := by rw [aGet_one tO54]; rfl
theorem zero54 : aZero prog 54 = some (.val .nilFunc) := by kernel_rfl
theorem alloc54 (σ : Sto) : aAlloc prog σ 54 = aNewVar σ (.val .nilFunc) := alloc_eq (by kernel_rfl) σ
theorem sto54 (σ : Sto) (v p : AV) : aStore prog σ 54 v p = aStoreN σ 1 v p := aStore_eq (by kernel_rfl) σ v p
theorem tO59 : tAgg prog 59 = some none := by kernel_rfl
theorem get59 (c : AV) (cs : List AV) : aGet prog 59 (c :: cs) = some c := by rw [aGet_one tO59]; rfl
theorem zero59 : aZero prog 59 = some (.nilsl) := by kernel_rfl
theorem alloc59 (σ : Sto) : aAlloc prog σ 59 = aNewVar σ (.nilsl) := alloc_eq (by kernel_rfl) σ
theorem sto59 (σ : Sto) (v p : AV) : aStore prog σ 59 v p = aStoreN σ 1 v p := aStore_eq (by kernel_rfl) σ v p
theorem len59 (σ : Sto) (x : AV) : aLen prog σ 59 x = aLenSl x := aLen_sl (by kernel_rfl) σ x
theorem idx59 (x i : AV) : aIndexAddr prog 59 x i = aAt 4 x i := aIndexAddr_eq (by kernel_rfl) x i
theorem app59 (σ : Sto) (u : TypeId) (nl : Bool) (es : List AV) (k : Nat) (x : AV) : aAppendO prog σ 59 u nl 4 es k x = (aSrcE prog u 4 x).bind fun ds => appAt σ nl 4 88 es k ds σ[k]? := aAppendO_eq (by kernel_rfl) σ nl es k x
theorem src59 (x : AV) : aSrcE prog 59 4 x = aSrcS 4 x := aSrcE_sl (by kernel_rfl) 4 x
theorem nil59 (σ : Sto) (u : TypeId) (y : AV) : aApp prog false σ 59 u .nilsl y = aAppendO prog (σ ++ [.cap 0 4]) 59 u true 4 [] σ.length y := aApp_nil (by kernel_rfl) (by decide) σ u y
theorem row59 {len : Nat} {parts : List (Nat × AV)} (hl : len * 4 ≤ 16777216) (hp : 0 < len) (hi : parts.map (·.1) = List.range len) (hv : ∀ p ∈ parts, p.2.cells.length = 4 ∧ p.2.cells.all AV.one = true) : aBuildRow prog 59 len parts = some (.sl 4 (parts.map (·.2))) := aBuildRow_eq (by kernel_rfl) hl hp hi hv
theorem row1_59 (σ : Sto) (v : AV) (h1 : v.cells.length = 4) (h2 : v.cells.all AV.one = true) : aRow prog false σ 59 1 [(0, v)] = some (.sl 4 [v], σ) := aRow_sl (by kernel_rfl) (by decide) (row59 (len := 1) (parts := [(0, v)]) (by decide) (by decide) rfl (by intro p hp; simp only [List.mem_singleton] at hp; subst hp; exact ⟨h1, h2⟩)) σ
theorem tM59 : tMk prog 59 = some ([.val (.string ⟨#[]⟩), .nilsl, .nilsl, .nilsl], 4, 88) := by kernel_rfl
theorem mk59 (σ : Sto) (k k1 : IntKind) (n : Int) : aMakeSlice prog σ 59 (.val (.int k n)) (.val (.int k1 n)) = if 0 ≤ n ∧ fits n.toNat 88 = true then some (.osl σ.length 0 n.toNat 4, σ ++ [.cells (aZeros [.val (.string ⟨#[]⟩), .nilsl, .nilsl, .nilsl] (n.toNat * 4))]) else none := aMakeSlice_eq tM59 σ k k1 n
theorem rowm59 (σ : Sto) (v : AV) (h0 : v.cells.length = 4) (h1 : v.cells.all AV.one = true) : aRow prog true σ 59 1 [(0, v)] = some (.osl σ.length 0 1 4, σ ++ [.cells v.cells]) := aRow_live tM59 (by decide) σ v h0 h1
theorem row0_59 (σ : Sto) : aRow prog false σ 59 0 [] = some (.slo false 4 [] σ.length, σ ++ [.cap 0 4]) := aRow_zero (by kernel_rfl) (by decide) σ
theorem tA61 : tAgg prog 61 = some (some 1) := by kernel_rfl
theorem get61 (a0 : AV) (l : List AV) : aGet prog 61 (a0 :: l) = some (.agg [a0]) := by rw [aGet_many tA61, if_pos (by simp)]; rfl
theorem fA61_0 (p : AV) : aFieldAddr prog 61 0 p = aOff 0 p := aFieldAddr_eq (t := 59) (by kernel_rfl) p
theorem fd61_0 (cs : List AV) : aField prog 61 0 (.agg cs) = cs[0]? := aField_eq (t := 59) (r := none) (by kernel_rfl) (by kernel_rfl) cs
theorem bld61 (parts : List (Nat × AV)) : aBuild prog 61 parts = (aFill (fun j => [(0, 1)][j]?) [.nilsl] parts).map .agg := aBuild_eq (by kernel_rfl) parts
theorem zero61 : aZero prog 61 = some (.agg [.nilsl]) := by kernel_rfl
theorem alloc61 (σ : Sto) : aAlloc prog σ 61 = aNewVar σ (.agg [.nilsl]) := alloc_eq (by kernel_rfl) σ
theorem sto61 (σ : Sto) (v p : AV) : aStore prog σ 61 v p = aStoreN σ 1 v p := aStore_eq (by kernel_rfl) σ v p
theorem tO62 : tAgg prog 62 = some none := by kernel_rfl
theorem get62 (c : AV) (cs : List AV) : aGet prog 62 (c :: cs) = some c := by rw [aGet_one tO62]; rfl
theorem zero62 : aZero prog 62 = some (.nilsl) := by kernel_rfl
theorem alloc62 (σ : Sto) : aAlloc prog σ 62 = aNewVar σ (.nilsl) := alloc_eq (by kernel_rfl) σ
theorem sto62 (σ : Sto) (v p : AV) : aStore prog σ 62 v p = aStoreN σ 1 v p := aStore_eq (by kernel_rfl) σ v p
theorem len62 (σ : Sto) (x : AV) : aLen prog σ 62 x = aLenSl x := aLen_sl (by kernel_rfl) σ x
theorem idx62 (x i : AV) : aIndexAddr prog 62 x i = aAt 2 x i := aIndexAddr_eq (by kernel_rfl) x i
theorem app62 (σ : Sto) (u : TypeId) (nl : Bool) (es : List AV) (k : Nat) (x : AV) : aAppendO prog σ 62 u nl 2 es k x = (aSrcE prog u 2 x).bind fun ds => appAt σ nl 2 16 es k ds σ[k]? := aAppendO_eq (by kernel_rfl) σ nl es k x
theorem src62 (x : AV) : aSrcE prog 62 2 x = aSrcS 2 x := aSrcE_sl (by kernel_rfl) 2 x
theorem nil62 (σ : Sto) (u : TypeId) (y : AV) : aApp prog false σ 62 u .nilsl y = aAppendO prog (σ ++ [.cap 0 2]) 62 u true 2 [] σ.length y := aApp_nil (by kernel_rfl) (by decide) σ u y
theorem row62 {len : Nat} {parts : List (Nat × AV)} (hl : len * 2 ≤ 16777216) (hp : 0 < len) (hi : parts.map (·.1) = List.range len) (hv : ∀ p ∈ parts, p.2.cells.length = 2 ∧ p.2.cells.all AV.one = true) : aBuildRow prog 62 len parts = some (.sl 2 (parts.map (·.2))) := aBuildRow_eq (by kernel_rfl) hl hp hi hv
theorem row1_62 (σ : Sto) (v : AV) (h1 : v.cells.length = 2) (h2 : v.cells.all AV.one = true) : aRow prog false σ 62 1 [(0, v)] = some (.sl 2 [v], σ) := aRow_sl (by kernel_rfl) (by decide) (row62 (len := 1) (parts := [(0, v)]) (by decide) (by decide) rfl (by intro p hp; simp only [List.mem_singleton] at hp; subst hp; exact ⟨h1, h2⟩)) σ
theorem tM62 : tMk prog 62 = some ([.val (.int .i64 0), .val (.int .i64 0)], 2, 16) := by kernel_rfl
theorem mk62 (σ : Sto) (k k1 : IntKind) (n : Int) : aMakeSlice prog σ 62 (.val (.int k n)) (.val (.int k1 n)) = if 0 ≤ n ∧ fits n.toNat 16 = true then some (.osl σ.length 0 n.toNat 2, σ ++ [.cells (aZeros [.val (.int .i64 0), .val (.int .i64 0)] (n.toNat * 2))]) else none := aMakeSlice_eq tM62 σ k k1 n
theorem rowm62 (σ : Sto) (v : AV) (h0 : v.cells.length = 2) (h1 : v.cells.all AV.one = true) : aRow prog true σ 62 1 [(0, v)] = some (.osl σ.length 0 1 2, σ ++ [.cells v.cells]) := aRow_live tM62 (by decide) σ v h0 h1
theorem row0_62 (σ : Sto) : aRow prog false σ 62 0 [] = some (.slo false 2 [] σ.length, σ ++ [.cap 0 2]) := aRow_zero (by kernel_rfl) (by decide) σ
theorem tA64 : tAgg prog 64 = some (some 7) := by kernel_rfl
theorem get64 (a0 a1 a2 a3 a4 a5 a6 : AV) (l : List AV) : aGet prog 64 (a0 :: a1 :: a2 :: a3 :: a4 :: a5 :: a6 :: l) = some (.agg [a0, a1, a2, a3, a4, a5, a6]) := by rw [aGet_many tA64, if_pos (by simp)]; rfl
theorem fA64_0 (p : AV) : aFieldAddr prog 64 0 p = aOff 0 p := aFieldAddr_eq (t := 3) (by kernel_rfl) p
theorem fd64_0 (cs : List AV) : aField prog 64 0 (.agg cs) = cs[0]? := aField_eq (t := 3) (r := none) (by kernel_rfl) (by kernel_rfl) cs
theorem fA64_1 (p : AV) : aFieldAddr prog 64 1 p = aOff 1 p := aFieldAddr_eq (t := 3) (by kernel_rfl) p
theorem fd64_1 (cs : List AV) : aField prog 64 1 (.agg cs) = cs[1]? := aField_eq (t := 3) (r := none) (by kernel_rfl) (by kernel_rfl) cs
theorem fA64_2 (p : AV) : aFieldAddr prog 64 2 p = aOff 2 p := aFieldAddr_eq (t := 3) (by kernel_rfl) p
theorem fd64_2 (cs : List AV) : aField prog 64 2 (.agg cs) = cs[2]? := aField_eq (t := 3) (r := none) (by kernel_rfl) (by kernel_rfl) cs
theorem fA64_3 (p : AV) : aFieldAddr prog 64 3 p = aOff 3 p := aFieldAddr_eq (t := 2) (by kernel_rfl) p
theorem fd64_3 (cs : List AV) : aField prog 64 3 (.agg cs) = cs[3]? := aField_eq (t := 2) (r := none) (by kernel_rfl) (by kernel_rfl) cs
theorem fA64_4 (p : AV) : aFieldAddr prog 64 4 p = aOff 4 p := aFieldAddr_eq (t := 21) (by kernel_rfl) p
theorem fd64_4 (cs : List AV) : aField prog 64 4 (.agg cs) = cs[4]? := aField_eq (t := 21) (r := none) (by kernel_rfl) (by kernel_rfl) cs
theorem fA64_5 (p : AV) : aFieldAddr prog 64 5 p = aOff 5 p := aFieldAddr_eq (t := 21) (by kernel_rfl) p
theorem fd64_5 (cs : List AV) : aField prog 64 5 (.agg cs) = cs[5]? := aField_eq (t := 21) (r := none) (by kernel_rfl) (by kernel_rfl) cs
theorem fA64_6 (p : AV) : aFieldAddr prog 64 6 p = aOff 6 p := aFieldAddr_eq (t := 62) (by kernel_rfl) p
theorem fd64_6 (cs : List AV) : aField prog 64 6 (.agg cs) = cs[6]? := aField_eq (t := 62) (r := none) (by kernel_rfl) (by kernel_rfl) cs
theorem bld64 (parts : List (Nat × AV)) : aBuild prog 64 parts = (aFill (fun j => [(0, 1), (1, 1), (2, 1), (3, 1), (4, 1), (5, 1), (6, 1)][j]?) [.val (.int .i64 0), .val (.int .i64 0), .val (.int .i64 0), .val (.int .i64 0), .val (.int .i32 0), .val (.int .i32 0), .nilsl] parts).map .agg := aBuild_eq (by kernel_rfl) parts
theorem zero64 : aZero prog 64 = some (.agg [.val (.int .i64 0), .val (.int .i64 0), .val (.int .i64 0), .val (.int .i64 0), .val (.int .i32 0), .val (.int .i32 0), .nilsl]) := by kernel_rfl
theorem alloc64 (σ : Sto) : aAlloc prog σ 64 = aNewVar σ (.agg [.val (.int .i64 0), .val (.int .i64 0), .val (.int .i64 0), .val (.int .i64 0), .val (.int .i32 0), .val (.int .i32 0), .nilsl]) := alloc_eq (by kernel_rfl) σ
theorem sto64 (σ : Sto) (v p : AV) : aStore prog σ 64 v p = aStoreN σ 7 v p := aStore_eq (by kernel_rfl) σ v p
theorem tO70 : tAgg prog 70 = some none := by kernel_rfl
theorem get70 (c : AV) (cs : List AV) : aGet prog 70 (c :: cs) = some c := by rw [aGet_one tO70]; rfl
theorem zero70 : aZero prog 70 = some (.nilsl) := by kernel_rfl
theorem alloc70 (σ : Sto) : aAlloc prog σ 70 = aNewVar σ (.nilsl) := alloc_eq (by kernel_rfl) σ
theorem sto70 (σ : Sto) (v p : AV) : aStore prog σ 70 v p = aStoreN σ 1 v p := aStore_eq (by kernel_rfl) σ v p
theorem len70 (σ : Sto) (x : AV) : aLen prog σ 70 x = aLenSl x := aLen_sl (by kernel_rfl) σ x
theorem idx70 (x i : AV) : aIndexAddr prog 70 x i = aAt 2 x i := aIndexAddr_eq (by kernel_rfl) x i
theorem app70 (σ : Sto) (u : TypeId) (nl : Bool) (es : List AV) (k : Nat) (x : AV) : aAppendO prog σ 70 u nl 2 es k x = (aSrcE prog u 2 x).bind fun ds => appAt σ nl 2 16 es k ds σ[k]? := aAppendO_eq (by kernel_rfl) σ nl es k x
theorem src70 (x : AV) : aSrcE prog 70 2 x = aSrcS 2 x := aSrcE_sl (by kernel_rfl) 2 x
theorem nil70 (σ : Sto) (u : TypeId) (y : AV) : aApp prog false σ 70 u .nilsl y = aAppendO prog (σ ++ [.cap 0 2]) 70 u true 2 [] σ.length y := aApp_nil (by kernel_rfl) (by decide) σ u y
theorem row70 {len : Nat} {parts : List (Nat × AV)} (hl : len * 2 ≤ 16777216) (hp : 0 < len) (hi : parts.map (·.1) = List.range len) (hv : ∀ p ∈ parts, p.2.cells.length = 2 ∧ p.2.cells.all AV.one = true) : aBuildRow prog 70 len parts = some (.sl 2 (parts.map (·.2))) := aBuildRow_eq (by kernel_rfl) hl hp hi hv
theorem row1_70 (σ : Sto) (v : AV) (h1 : v.cells.length = 2) (h2 : v.cells.all AV.one = true) : aRow prog false σ 70 1 [(0, v)] = some (.sl 2 [v], σ) := aRow_sl (by kernel_rfl) (by decide) (row70 (len := 1) (parts := [(0, v)]) (by decide) (by decide) rfl (by intro p hp; simp only [List.mem_singleton] at hp; subst hp; exact ⟨h1, h2⟩)) σ
theorem tM70 : tMk prog 70 = some ([.val (.int .i64 0), .val (.int .i64 0)], 2, 16) := by kernel_rfl
theorem mk70 (σ : Sto) (k k1 : IntKind) (n : Int) : aMakeSlice prog σ 70 (.val (.int k n)) (.val (.int k1 n)) = if 0 ≤ n ∧ fits n.toNat 16 = true then some (.osl σ.length 0 n.toNat 2, σ ++ [.cells (aZeros [.val (.int .i64 0), .val (.int .i64 0)] (n.toNat * 2))]) else none := aMakeSlice_eq tM70 σ k k1 n
theorem rowm70 (σ : Sto) (v : AV) (h0 : v.cells.length = 2) (h1 : v.cells.all AV.one = true) : aRow prog true σ 70 1 [(0, v)] = some (.osl σ.length 0 1 2, σ ++ [.cells v.cells]) := aRow_live tM70 (by decide) σ v h0 h1
theorem row0_70 (σ : Sto) : aRow prog false σ 70 0 [] = some (.slo false 2 [] σ.length, σ ++ [.cap 0 2]) := aRow_zero (by kernel_rfl) (by decide) σ
theorem tA72 : tAgg prog 72 = some (some 7) := by kernel_rfl
theorem get72 (a0 a1 a2 a3 a4 a5 a6 : AV) (l : List AV) : aGet prog 72 (a0 :: a1 :: a2 :: a3 :: a4 :: a5 :: a6 :: l) = some (.agg [a0, a1, a2, a3, a4, a5, a6]) := by rw [aGet_many tA72, if_pos (by simp)]; rfl
theorem fA72_0 (p : AV) : aFieldAddr prog 72 0 p = aOff 0 p := aFieldAddr_eq (t := 3) (by kernel_rfl) p
theorem fd72_0 (cs : List AV) : aField prog 72 0 (.agg cs) = cs[0]? := aField_eq (t := 3) (r := none) (by kernel_rfl) (by kernel_rfl) cs
theorem fA72_1 (p : AV) : aFieldAddr prog 72 1 p = aOff 1 p := aFieldAddr_eq (t := 3) (by kernel_rfl) p
theorem fd72_1 (cs : List AV) : aField prog 72 1 (.agg cs) = cs[1]? := aField_eq (t := 3) (r := none) (by kernel_rfl) (by kernel_rfl) cs
theorem fA72_2 (p : AV) : aFieldAddr prog 72 2 p = aOff 2 p := aFieldAddr_eq (t := 3) (by kernel_rfl) p
theorem fd72_2 (cs : List AV) : aField prog 72 2 (.agg cs) = cs[2]? := aField_eq (t := 3) (r := none) (by kernel_rfl) (by kernel_rfl) cs
theorem fA72_3 (p : AV) : aFieldAddr prog 72 3 p = aOff 3 p := aFieldAddr_eq (t := 2) (by kernel_rfl) p
theorem fd72_3 (cs : List AV) : aField prog 72 3 (.agg cs) = cs[3]? := aField_eq (t := 2) (r := none) (by kernel_rfl) (by kernel_rfl) cs
theorem fA72_4 (p : AV) : aFieldAddr prog 72 4 p = aOff 4 p := aFieldAddr_eq (t := 21) (by kernel_rfl) p
theorem fd72_4 (cs : List AV) : aField prog 72 4 (.agg cs) = cs[4]? := aField_eq (t := 21) (r := none) (by kernel_rfl) (by kernel_rfl) cs
theorem fA72_5 (p : AV) : aFieldAddr prog 72 5 p = aOff 5 p := aFieldAddr_eq (t := 21) (by kernel_rfl) p
theorem fd72_5 (cs : List AV) : aField prog 72 5 (.agg cs) = cs[5]? := aField_eq (t := 21) (r := none) (by kernel_rfl) (by kernel_rfl) cs
theorem fA72_6 (p : AV) : aFieldAddr prog 72 6 p = aOff 6 p := aFieldAddr_eq (t := 70) (by kernel_rfl) p
theorem fd72_6 (cs : List AV) : aField prog 72 6 (.agg cs) = cs[6]? := aField_eq (t := 70) (r := none) (by kernel_rfl) (by kernel_rfl) cs
theorem bld72 (parts : List (Nat × AV)) : aBuild prog 72 parts = (aFill (fun j => [(0, 1), (1, 1), (2, 1), (3, 1), (4, 1), (5, 1), (6, 1)][j]?) [.val (.int .i64 0), .val (.int .i64 0), .val (.int .i64 0), .val (.int .i64 0), .val (.int .i32 0), .val (.int .i32 0), .nilsl] parts).map .agg := aBuild_eq (by kernel_rfl) parts
theorem zero72 : aZero prog 72 = some (.agg [.val (.int .i64 0), .val (.int .i64 0), .val (.int .i64 0), .val (.int .i64 0), .val (.int .i32 0), .val (.int .i32 0), .nilsl]) := by kernel_rfl
theorem alloc72 (σ : Sto) : aAlloc prog σ 72 = aNewVar σ (.agg [.val (.int .i64 0), .val (.int .i64 0), .val (.int .i64 0), .val (.int .i64 0), .val (.int .i32 0), .val (.int .i32 0), .nilsl]) := alloc_eq (by kernel_rfl) σ
theorem sto72 (σ : Sto) (v p : AV) : aStore prog σ 72 v p = aStoreN σ 7 v p := aStore_eq (by kernel_rfl) σ v p
theorem tO76 : tAgg prog 76 = some none := by kernel_rfl
theorem get76 (c : AV) (cs : List AV) : aGet prog 76 (c :: cs) = some c := by rw [aGet_one tO76]; rfl
theorem zero76 : aZero prog 76 = some (.val (.int .u16 0)) := by kernel_rfl
theorem alloc76 (σ : Sto) : aAlloc prog σ 76 = aNewVar σ (.val (.int .u16 0)) := alloc_eq (by kernel_rfl) σ
theorem sto76 (σ : Sto) (v p : AV) : aStore prog σ 76 v p = aStoreN σ 1 v p := aStore_eq (by kernel_rfl) σ v p
theorem tA77 : tAgg prog 77 = some (some 2) := by kernel_rfl
theorem get77 (a0 a1 : AV) (l : List AV) : aGet prog 77 (a0 :: a1 :: l) = some (.agg [a0, a1]) := by rw [aGet_many tA77, if_pos (by simp)]; rfl
theorem fA77_0 (p : AV) : aFieldAddr prog 77 0 p = aOff 0 p := aFieldAddr_eq (t := 9) (by kernel_rfl) p
theorem fd77_0 (cs : List AV) : aField prog 77 0 (.agg cs) = cs[0]? := aField_eq (t := 9) (r := none) (by kernel_rfl) (by kernel_rfl) cs
theorem fA77_1 (p : AV) : aFieldAddr prog 77 1 p = aOff 1 p := aFieldAddr_eq (t := 3) (by kernel_rfl) p
theorem fd77_1 (cs : List AV) : aField prog 77 1 (.agg cs) = cs[1]? := aField_eq (t := 3) (r := none) (by kernel_rfl) (by kernel_rfl) cs
theorem bld77 (parts : List (Nat × AV)) : aBuild prog 77 parts = (aFill (fun j => [(0, 1), (1, 1)][j]?) [.val (.string ⟨#[]⟩), .val (.int .i64 0)] parts).map .agg := aBuild_eq (by kernel_rfl) parts
theorem zero77 : aZero prog 77 = some (.agg [.val (.string ⟨#[]⟩), .val (.int .i64 0)]) := by kernel_rfl
theorem alloc77 (σ : Sto) : aAlloc prog σ 77 = aNewVar σ (.agg [.val (.string ⟨#[]⟩), .val (.int .i64 0)]) := alloc_eq (by kernel_rfl) σ
theorem sto77 (σ : Sto) (v p : AV) : aStore prog σ 77 v p = aStoreN σ 2 v p := aStore_eq (by kernel_rfl) σ v p
theorem tO78 : tAgg prog 78 = some none := by kernel_rfl
theorem get78 (c : AV) (cs : List AV) : aGet prog 78 (c :: cs) = some c := by rw [aGet_one tO78]; rfl
theorem zero78 : aZero prog 78 = some (.nilsl) := by kernel_rfl
theorem alloc78 (σ : Sto) : aAlloc prog σ 78 = aNewVar σ (.nilsl) := alloc_eq (by kernel_rfl) σ
theorem sto78 (σ : Sto) (v p : AV) : aStore prog σ 78 v p = aStoreN σ 1 v p := aStore_eq (by kernel_rfl) σ v p
theorem len78 (σ : Sto) (x : AV) : aLen prog σ 78 x = aLenSl x := aLen_sl (by kernel_rfl) σ x
theorem idx78 (x i : AV) : aIndexAddr prog 78 x i = aAt 2 x i := aIndexAddr_eq (by kernel_rfl) x i
theorem app78 (σ : Sto) (u : TypeId) (nl : Bool) (es : List AV) (k : Nat) (x : AV) : aAppendO prog σ 78 u nl 2 es k x = (aSrcE prog u 2 x).bind fun ds => appAt σ nl 2 24 es k ds σ[k]? := aAppendO_eq (by kernel_rfl) σ nl es k x
theorem src78 (x : AV) : aSrcE prog 78 2 x = aSrcS 2 x := aSrcE_sl (by kernel_rfl) 2 x
theorem nil78 (σ : Sto) (u : TypeId) (y : AV) : aApp prog false σ 78 u .nilsl y = aAppendO prog (σ ++ [.cap 0 2]) 78 u true 2 [] σ.length y := aApp_nil (by kernel_rfl) (by decide) σ u y
theorem row78 {len : Nat} {parts : List (Nat × AV)} (hl : len * 2 ≤ 16777216) (hp : 0 < len) (hi : parts.map (·.1) = List.range len) (hv : ∀ p ∈ parts, p.2.cells.length = 2 ∧ p.2.cells.all AV.one = true) : aBuildRow prog 78 len parts = some (.sl 2 (parts.map (·.2))) := aBuildRow_eq (by kernel_rfl) hl hp hi hv
theorem row1_78 (σ : Sto) (v : AV) (h1 : v.cells.length = 2) (h2 : v.cells.all AV.one = true) : aRow prog false σ 78 1 [(0, v)] = some (.sl 2 [v], σ) := aRow_sl (by kernel_rfl) (by decide) (row78 (len := 1) (parts := [(0, v)]) (by decide) (by decide) rfl (by intro p hp; simp only [List.mem_singleton] at hp; subst hp; exact ⟨h1, h2⟩)) σ
theorem tM78 : tMk prog 78 = some ([.val (.string ⟨#[]⟩), .val (.int .i64 0)], 2, 24) := by kernel_rfl
theorem mk78 (σ : Sto) (k k1 : IntKind) (n : Int) : aMakeSlice prog σ 78 (.val (.int k n)) (.val (.int k1 n)) = if 0 ≤ n ∧ fits n.toNat 24 = true then some (.osl σ.length 0 n.toNat 2, σ ++ [.cells (aZeros [.val (.string ⟨#[]⟩), .val (.int .i64 0)] (n.toNat * 2))]) else none := aMakeSlice_eq tM78 σ k k1 n
theorem rowm78 (σ : Sto) (v : AV) (h0 : v.cells.length = 2) (h1 : v.cells.all AV.one = true) : aRow prog true σ 78 1 [(0, v)] = some (.osl σ.length 0 1 2, σ ++ [.cells v.cells]) := aRow_live tM78 (by decide) σ v h0 h1
theorem row0_78 (σ : Sto) : aRow prog false σ 78 0 [] = some (.slo false 2 [] σ.length, σ ++ [.cap 0 2]) := aRow_zero (by kernel_rfl) (by decide) σ
theorem tO79 : tAgg prog 79 = some none := by kernel_rfl
theorem get79 (c : AV) (cs : List AV) : aGet prog 79 (c :: cs) = some c := by rw [aGet_one tO79]; rfl
theorem zero79 : aZero prog 79 = some (.nilsl) := by kernel_rfl
theorem alloc79 (σ : Sto) : aAlloc prog σ 79 = aNewVar σ (.nilsl) := alloc_eq (by kernel_rfl) σ
theorem sto79 (σ : Sto) (v p : AV) : aStore prog σ 79 v p = aStoreN σ 1 v p := aStore_eq (by kernel_rfl) σ v p
theorem len79 (σ : Sto) (x : AV) : aLen prog σ 79 x = aLenSl x := aLen_sl (by kernel_rfl) σ x
theorem idx79 (x i : AV) : aIndexAddr prog 79 x i = aAt 1 x i := aIndexAddr_eq (by kernel_rfl) x i
theorem app79 (σ : Sto) (u : TypeId) (nl : Bool) (es : List AV) (k : Nat) (x : AV) : aAppendO prog σ 79 u nl 1 es k x = (aSrcE prog u 1 x).bind fun ds => appAt σ nl 1 16 es k ds σ[k]? := aAppendO_eq (by kernel_rfl) σ nl es k x
theorem src79 (x : AV) : aSrcE prog 79 1 x = aSrcS 1 x := aSrcE_sl (by kernel_rfl) 1 x
theorem nil79 (σ : Sto) (u : TypeId) (y : AV) : aApp prog false σ 79 u .nilsl y = aAppendO prog (σ ++ [.cap 0 1]) 79 u true 1 [] σ.length y := aApp_nil (by kernel_rfl) (by decide) σ u y
theorem row79 {len : Nat} {parts : List (Nat × AV)} (hl : len * 1 ≤ 16777216) (hp : 0 < len) (hi : parts.map (·.1) = List.range len) (hv : ∀ p ∈ parts, p.2.cells.length = 1 ∧ p.2.cells.all AV.one = true) : aBuildRow prog 79 len parts = some (.sl 1 (parts.map (·.2))) := aBuildRow_eq (by kernel_rfl) hl hp hi hv
theorem row1_79 (σ : Sto) (v : AV) (h1 : v.cells.length = 1) (h2 : v.cells.all AV.one = true) : aRow prog false σ 79 1 [(0, v)] = some (.sl 1 [v], σ) := aRow_sl (by kernel_rfl) (by decide) (row79 (len := 1) (parts := [(0, v)]) (by decide) (by decide) rfl (by intro p hp; simp only [List.mem_singleton] at hp; subst hp; exact ⟨h1, h2⟩)) σ
theorem tM79 : tMk prog 79 = some ([.val (.string ⟨#[]⟩)], 1, 16) := by kernel_rfl
theorem mk79 (σ : Sto) (k k1 : IntKind) (n : Int) : aMakeSlice prog σ 79 (.val (.int k n)) (.val (.int k1 n)) = if 0 ≤ n ∧ fits n.toNat 16 = true then some (.osl σ.length 0 n.toNat 1, σ ++ [.cells (aZeros [.val (.string ⟨#[]⟩)] (n.toNat * 1))]) else none := aMakeSlice_eq tM79 σ k k1 n
theorem rowm79 (σ : Sto) (v : AV) (h0 : v.cells.length = 1) (h1 : v.cells.all AV.one = true) : aRow prog true σ 79 1 [(0, v)] = some (.osl σ.length 0 1 1, σ ++ [.cells v.cells]) := aRow_live tM79 (by decide) σ v h0 h1
theorem row0_79 (σ : Sto) : aRow prog false σ 79 0 [] = some (.slo false 1 [] σ.length, σ ++ [.cap 0 1]) := aRow_zero (by kernel_rfl) (by decide) σ
theorem tA81 : tAgg prog 81 = some (some 6) := by kernel_rfl
theorem get81 (a0 a1 a2 a3 a4 a5 : AV) (l : List AV) : aGet prog 81 (a0 :: a1 :: a2 :: a3 :: a4 :: a5 :: l) = some (.agg [a0, a1, a2, a3, a4, a5]) := by rw [aGet_many tA81, if_pos (by simp)]; rfl
theorem fA81_0 (p : AV) : aFieldAddr prog 81 0 p = aOff 0 p := aFieldAddr_eq (t := 79) (by kernel_rfl) p
theorem fd81_0 (cs : List AV) : aField prog 81 0 (.agg cs) = cs[0]? := aField_eq (t := 79) (r := none) (by kernel_rfl) (by kernel_rfl) cs
theorem fA81_1 (p : AV) : aFieldAddr prog 81 1 p = aOff 1 p := aFieldAddr_eq (t := 43) (by kernel_rfl) p
theorem fd81_1 (cs : List AV) : aField prog 81 1 (.agg cs) = some (.agg ((cs.drop 1).take 5)) := aField_eq (t := 43) (r := some 5) (by kernel_rfl) (by kernel_rfl) cs
theorem bld81 (parts : List (Nat × AV)) : aBuild prog 81 parts = (aFill (fun j => [(0, 1), (1, 5)][j]?) [.nilsl, .val (.int .i64 0), .val (.int .i64 0), .val (.int .i64 0), .val (.string ⟨#[]⟩), .nilsl] parts).map .agg := aBuild_eq (by kernel_rfl) parts
theorem zero81 : aZero prog 81 = some (.agg [.nilsl, .val (.int .i64 0), .val (.int .i64 0), .val (.int .i64 0), .val (.string ⟨#[]⟩), .nilsl]) := by kernel_rfl
theorem alloc81 (σ : Sto) : aAlloc prog σ 81 = aNewVar σ (.agg [.nilsl, .val (.int .i64 0), .val (.int .i64 0), .val (.int .i64 0), .val (.string ⟨#[]⟩), .nilsl]) := alloc_eq (by kernel_rfl) σ
theorem sto81 (σ : Sto) (v p : AV) : aStore prog σ 81 v p = aStoreN σ 6 v p := aStore_eq (by kernel_rfl) σ v p
theorem tO82 : tAgg prog 82 = some none := by kernel_rfl
theorem get82 (c : AV) (cs : List AV) : aGet prog 82 (c :: cs) = some c := by rw [aGet_one tO82]; rfl
theorem zero82 : aZero prog 82 = some (.nilsl) := by kernel_rfl
theorem alloc82 (σ : Sto) : aAlloc prog σ 82 = aNewVar σ (.nilsl) := alloc_eq (by kernel_rfl) σ
theorem sto82 (σ : Sto) (v p : AV) : aStore prog σ 82 v p = aStoreN σ 1 v p := aStore_eq (by kernel_rfl) σ v p
theorem len82 (σ : Sto) (x : AV) : aLen prog σ 82 x = aLenSl x := aLen_sl (by kernel_rfl) σ x
theorem idx82 (x i : AV) : aIndexAddr prog 82 x i = aAt 6 x i := aIndexAddr_eq (by kernel_rfl) x i
theorem app82 (σ : Sto) (u : TypeId) (nl : Bool) (es : List AV) (k : Nat) (x : AV) : aAppendO prog σ 82 u nl 6 es k x = (aSrcE prog u 6 x).bind fun ds => appAt σ nl 6 88 es k ds σ[k]? := aAppendO_eq (by kernel_rfl) σ nl es k x
theorem src82 (x : AV) : aSrcE prog 82 6 x = aSrcS 6 x := aSrcE_sl (by kernel_rfl) 6 x
theorem nil82 (σ : Sto) (u : TypeId) (y : AV) : aApp prog false σ 82 u .nilsl y = aAppendO prog (σ ++ [.cap 0 6]) 82 u true 6 [] σ.length y := aApp_nil (by kernel_rfl) (by decide) σ u y
theorem row82 {len : Nat} {parts : List (Nat × AV)} (hl : len * 6 ≤ 16777216) (hp : 0 < len) (hi : parts.map (·.1) = List.range len) (hv : ∀ p ∈ parts, p.2.cells.length = 6 ∧ p.2.cells.all AV.one = true) : aBuildRow prog 82 len parts = some (.sl 6 (parts.map (·.2))) := aBuildRow_eq (by kernel_rfl) hl hp hi hv
theorem row1_82 (σ : Sto) (v : AV) (h1 : v.cells.length = 6) (h2 : v.cells.all AV.one = true) : aRow prog false σ 82 1 [(0, v)] = some (.sl 6 [v], σ) := aRow_sl (by kernel_rfl) (by decide) (row82 (len := 1) (parts := [(0, v)]) (by decide) (by decide) rfl (by intro p hp; simp only [List.mem_singleton] at hp; subst hp; exact ⟨h1, h2⟩)) σ
theorem tM82 : tMk prog 82 = some ([.nilsl, .val (.int .i64 0), .val (.int .i64 0), .val (.int .i64 0), .val (.string ⟨#[]⟩), .nilsl], 6, 88) := by kernel_rfl
theorem mk82 (σ : Sto) (k k1 : IntKind) (n : Int) : aMakeSlice prog σ 82 (.val (.int k n)) (.val (.int k1 n)) = if 0 ≤ n ∧ fits n.toNat 88 = true then some (.osl σ.length 0 n.toNat 6, σ ++ [.cells (aZeros [.nilsl, .val (.int .i64 0), .val (.int .i64 0), .val (.int .i64 0), .val (.string ⟨#[]⟩), .nilsl] (n.toNat * 6))]) else none := aMakeSlice_eq tM82 σ k k1 n
theorem rowm82 (σ : Sto) (v : AV) (h0 : v.cells.length = 6) (h1 : v.cells.all AV.one = true) : aRow prog true σ 82 1 [(0, v)] = some (.osl σ.length 0 1 6, σ ++ [.cells v.cells]) := aRow_live tM82 (by decide) σ v h0 h1
theorem row0_82 (σ : Sto) : aRow prog false σ 82 0 [] = some (.slo false 6 [] σ.length, σ ++ [.cap 0 6]) := aRow_zero (by kernel_rfl) (by decide) σ
theorem tA84 : tAgg prog 84 = some (some 5) := by kernel_rfl
theorem get84 (a0 a1 a2 a3 a4 : AV) (l : List AV) : aGet prog 84 (a0 :: a1 :: a2 :: a3 :: a4 :: l) = some (.agg [a0, a1, a2, a3, a4]) := by rw [aGet_many tA84, if_pos (by simp)]; rfl
theorem fA84_0 (p : AV) : aFieldAddr prog 84 0 p = aOff 0 p := aFieldAddr_eq (t := 9) (by kernel_rfl) p
theorem fd84_0 (cs : List AV) : aField prog 84 0 (.agg cs) = cs[0]? := aField_eq (t := 9) (r := none) (by kernel_rfl) (by kernel_rfl) cs
theorem fA84_1 (p : AV) : aFieldAddr prog 84 1 p = aOff 1 p := aFieldAddr_eq (t := 78) (by kernel_rfl) p
theorem fd84_1 (cs : List AV) : aField prog 84 1 (.agg cs) = cs[1]? := aField_eq (t := 78) (r := none) (by kernel_rfl) (by kernel_rfl) cs
theorem fA84_2 (p : AV) : aFieldAddr prog 84 2 p = aOff 2 p := aFieldAddr_eq (t := 78) (by kernel_rfl) p
theorem fd84_2 (cs : List AV) : aField prog 84 2 (.agg cs) = cs[2]? := aField_eq (t := 78) (r := none) (by kernel_rfl) (by kernel_rfl) cs
theorem fA84_3 (p : AV) : aFieldAddr prog 84 3 p = aOff 3 p := aFieldAddr_eq (t := 78) (by kernel_rfl) p
theorem fd84_3 (cs : List AV) : aField prog 84 3 (.agg cs) = cs[3]? := aField_eq (t := 78) (r := none) (by kernel_rfl) (by kernel_rfl) cs
theorem fA84_4 (p : AV) : aFieldAddr prog 84 4 p = aOff 4 p := aFieldAddr_eq (t := 82) (by kernel_rfl) p
theorem fd84_4 (cs : List AV) : aField prog 84 4 (.agg cs) = cs[4]? := aField_eq (t := 82) (r := none) (by kernel_rfl) (by kernel_rfl) cs
theorem bld84 (parts : List (Nat × AV)) : aBuild prog 84 parts = (aFill (fun j => [(0, 1), (1, 1), (2, 1), (3, 1), (4, 1)][j]?) [.val (.string ⟨#[]⟩), .nilsl, .nilsl, .nilsl, .nilsl] parts).map .agg := aBuild_eq (by kernel_rfl) parts
theorem zero84 : aZero prog 84 = some (.agg [.val (.string ⟨#[]⟩), .nilsl, .nilsl, .nilsl, .nilsl]) := by kernel_rfl
theorem alloc84 (σ : Sto) : aAlloc prog σ 84 = aNewVar σ (.agg [.val (.string ⟨#[]⟩), .nilsl, .nilsl, .nilsl, .nilsl]) := alloc_eq (by kernel_rfl) σ
theorem sto84 (σ : Sto) (v p : AV) : aStore prog σ 84 v p = aStoreN σ 5 v p := aStore_eq (by kernel_rfl) σ v p
theorem tO85 : tAgg prog 85 = some none := by kernel_rfl
theorem get85 (c : AV) (cs : List AV) : aGet prog 85 (c :: cs) = some c := by rw [aGet_one tO85]; rfl
theorem zero85 : aZero prog 85 = some (.nilsl) := by kernel_rfl
theorem alloc85 (σ : Sto) : aAlloc prog σ 85 = aNewVar σ (.nilsl) := alloc_eq (by kernel_rfl) σ
theorem sto85 (σ : Sto) (v p : AV) : aStore prog σ 85 v p = aStoreN σ 1 v p := aStore_eq (by kernel_rfl) σ v p
theorem len85 (σ : Sto) (x : AV) : aLen prog σ 85 x = aLenSl x := aLen_sl (by kernel_rfl) σ x
theorem idx85 (x i : AV) : aIndexAddr prog 85 x i = aAt 5 x i := aIndexAddr_eq (by kernel_rfl) x i
theorem app85 (σ : Sto) (u : TypeId) (nl : Bool) (es : List AV) (k : Nat) (x : AV) : aAppendO prog σ 85 u nl 5 es k x = (aSrcE prog u 5 x).bind fun ds => appAt σ nl 5 112 es k ds σ[k]? := aAppendO_eq (by kernel_rfl) σ nl es k x
theorem src85 (x : AV) : aSrcE prog 85 5 x = aSrcS 5 x := aSrcE_sl (by kernel_rfl) 5 x
theorem nil85 (σ : Sto) (u : TypeId) (y : AV) : aApp prog false σ 85 u .nilsl y = aAppendO prog (σ ++ [.cap 0 5]) 85 u true 5 [] σ.length y := aApp_nil (by kernel_rfl) (by decide) σ u y
theorem row85 {len : Nat} {parts : List (Nat × AV)} (hl : len * 5 ≤ 16777216) (hp : 0 < len) (hi : parts.map (·.1) = List.range len) (hv : ∀ p ∈ parts, p.2.cells.length = 5 ∧ p.2.cells.all AV.one = true) : aBuildRow prog 85 len parts = some (.sl 5 (parts.map (·.2))) := aBuildRow_eq (by kernel_rfl) hl hp hi hv
theorem row1_85 (σ : Sto) (v : AV) (h1 : v.cells.length = 5) (h2 : v.cells.all AV.one = true) : aRow prog false σ 85 1 [(0, v)] = some (.sl 5 [v], σ) := aRow_sl (by kernel_rfl) (by decide) (row85 (len := 1) (parts := [(0, v)]) (by decide) (by decide) rfl (by intro p hp; simp only [List.mem_singleton] at hp; subst hp; exact ⟨h1, h2⟩)) σ
theorem tM85 : tMk prog 85 = some ([.val (.string ⟨#[]⟩), .nilsl, .nilsl, .nilsl, .nilsl], 5, 112) := by kernel_rfl
theorem mk85 (σ : Sto) (k k1 : IntKind) (n : Int) : aMakeSlice prog σ 85 (.val (.int k n)) (.val (.int k1 n)) = if 0 ≤ n ∧ fits n.toNat 112 = true then some (.osl σ.length 0 n.toNat 5, σ ++ [.cells (aZeros [.val (.string ⟨#[]⟩), .nilsl, .nilsl, .nilsl, .nilsl] (n.toNat * 5))]) else none := aMakeSlice_eq tM85 σ k k1 n
theorem rowm85 (σ : Sto) (v : AV) (h0 : v.cells.length = 5) (h1 : v.cells.all AV.one = true) : aRow prog true σ 85 1 [(0, v)] = some (.osl σ.length 0 1 5, σ ++ [.cells v.cells]) := aRow_live tM85 (by decide) σ v h0 h1
theorem row0_85 (σ : Sto) : aRow prog false σ 85 0 [] = some (.slo false 5 [] σ.length, σ ++ [.cap 0 5]) := aRow_zero (by kernel_rfl) (by decide) σ
theorem tA87 : tAgg prog 87 = some (some 1) := by kernel_rfl
theorem get87 (a0 : AV) (l : List AV) : aGet prog 87 (a0 :: l) = some (.agg [a0]) := by rw [aGet_many tA87, if_pos (by simp)]; rfl
theorem fA87_0 (p : AV) : aFieldAddr prog 87 0 p = aOff 0 p := aFieldAddr_eq (t := 85) (by kernel_rfl) p
theorem fd87_0 (cs : List AV) : aField prog 87 0 (.agg cs) = cs[0]? := aField_eq (t := 85) (r := none) (by kernel_rfl) (by kernel_rfl) cs
theorem bld87 (parts : List (Nat × AV)) : aBuild prog 87 parts = (aFill (fun j => [(0, 1)][j]?) [.nilsl] parts).map .agg := aBuild_eq (by kernel_rfl) parts
theorem zero87 : aZero prog 87 = some (.agg [.nilsl]) := by kernel_rfl
theorem alloc87 (σ : Sto) : aAlloc prog σ 87 = aNewVar σ (.agg [.nilsl]) := alloc_eq (by kernel_rfl) σ
theorem sto87 (σ : Sto) (v p : AV) : aStore prog σ 87 v p = aStoreN σ 1 v p := aStore_eq (by kernel_rfl) σ v p
theorem tO89 : tAgg prog 89 = some none := by kernel_rfl
theorem get89 (c : AV) (cs : List AV) : aGet prog 89 (c :: cs) = some c := by rw [aGet_one tO89]; rfl
theorem zero89 : aZero prog 89 = some (.nilsl) := by kernel_rfl
theorem alloc89 (σ : Sto) : aAlloc prog σ 89 = aNewVar σ (.nilsl) := alloc_eq (by kernel_rfl) σ
theorem sto89 (σ : Sto) (v p : AV) : aStore prog σ 89 v p = aStoreN σ 1 v p := aStore_eq (by kernel_rfl) σ v p
theorem len89 (σ : Sto) (x : AV) : aLen prog σ 89 x = aLenSl x := aLen_sl (by kernel_rfl) σ x
theorem idx89 (x i : AV) : aIndexAddr prog 89 x i = aAt 5 x i := aIndexAddr_eq (by kernel_rfl) x i
theorem app89 (σ : Sto) (u : TypeId) (nl : Bool) (es : List AV) (k : Nat) (x : AV) : aAppendO prog σ 89 u nl 5 es k x = (aSrcE prog u 5 x).bind fun ds => appAt σ nl 5 112 es k ds σ[k]? := aAppendO_eq (by kernel_rfl) σ nl es k x
theorem src89 (x : AV) : aSrcE prog 89 5 x = aSrcS 5 x := aSrcE_sl (by kernel_rfl) 5 x
theorem nil89 (σ : Sto) (u : TypeId) (y : AV) : aApp prog false σ 89 u .nilsl y = aAppendO prog (σ ++ [.cap 0 5]) 89 u true 5 [] σ.length y := aApp_nil (by kernel_rfl) (by decide) σ u y
theorem row89 {len : Nat} {parts : List (Nat × AV)} (hl : len * 5 ≤ 16777216) (hp : 0 < len) (hi : parts.map (·.1) = List.range len) (hv : ∀ p ∈ parts, p.2.cells.length = 5 ∧ p.2.cells.all AV.one = true) : aBuildRow prog 89 len parts = some (.sl 5 (parts.map (·.2))) := aBuildRow_eq (by kernel_rfl) hl hp hi hv
theorem row1_89 (σ : Sto) (v : AV) (h1 : v.cells.length = 5) (h2 : v.cells.all AV.one = true) : aRow prog false σ 89 1 [(0, v)] = some (.sl 5 [v], σ) := aRow_sl (by kernel_rfl) (by decide) (row89 (len := 1) (parts := [(0, v)]) (by decide) (by decide) rfl (by intro p hp; simp only [List.mem_singleton] at hp; subst hp; exact ⟨h1, h2⟩)) σ
theorem tM89 : tMk prog 89 = some ([.val (.string ⟨#[]⟩), .nilsl, .nilsl, .nilsl, .nilsl], 5, 112) := by kernel_rfl
theorem mk89 (σ : Sto) (k k1 : IntKind) (n : Int) : aMakeSlice prog σ 89 (.val (.int k n)) (.val (.int k1 n)) = if 0 ≤ n ∧ fits n.toNat 112 = true then some (.osl σ.length 0 n.toNat 5, σ ++ [.cells (aZeros [.val (.string ⟨#[]⟩), .nilsl, .nilsl, .nilsl, .nilsl] (n.toNat * 5))]) else none := aMakeSlice_eq tM89 σ k k1 n
theorem rowm89 (σ : Sto) (v : AV) (h0 : v.cells.length = 5) (h1 : v.cells.all AV.one = true) : aRow prog true σ 89 1 [(0, v)] = some (.osl σ.length 0 1 5, σ ++ [.cells v.cells]) := aRow_live tM89 (by decide) σ v h0 h1
theorem row0_89 (σ : Sto) : aRow prog false σ 89 0 [] = some (.slo false 5 [] σ.length, σ ++ [.cap 0 5]) := aRow_zero (by kernel_rfl) (by decide) σ
theorem tA91 : tAgg prog 91 = some (some 1) := by kernel_rfl
theorem get91 (a0 : AV) (l : List AV) : aGet prog 91 (a0 :: l) = some (.agg [a0]) := by rw [aGet_many tA91, if_pos (by simp)]; rfl
theorem fA91_0 (p : AV) : aFieldAddr prog 91 0 p = aOff 0 p := aFieldAddr_eq (t := 89) (by kernel_rfl) p
theorem fd91_0 (cs : List AV) : aField prog 91 0 (.agg cs) = cs[0]? := aField_eq (t := 89) (r := none) (by kernel_rfl) (by kernel_rfl) cs
theorem bld91 (parts : List (Nat × AV)) : aBuild prog 91 parts = (aFill (fun j => [(0, 1)][j]?) [.nilsl] parts).map .agg := aBuild_eq (by kernel_rfl) parts
theorem zero91 : aZero prog 91 = some (.agg [.nilsl]) := by kernel_rfl
theorem alloc91 (σ : Sto) : aAlloc prog σ 91 = aNewVar σ (.agg [.nilsl]) := alloc_eq (by kernel_rfl) σ
theorem sto91 (σ : Sto) (v p : AV) : aStore prog σ 91 v p = aStoreN σ 1 v p := aStore_eq (by kernel_rfl) σ v p
theorem tO94 : tAgg prog 94 = some none := by kernel_rfl
theorem get94 (c : AV) (cs : List AV) : aGet prog 94 (c :: cs) = some c := by rw [aGet_one tO94]; rfl
theorem zero94 : aZero prog 94 = some (.nilsl) := by kernel_rfl
theorem alloc94 (σ : Sto) : aAlloc prog σ 94 = aNewVar σ (.nilsl) := alloc_eq (by kernel_rfl) σ
theorem sto94 (σ : Sto) (v p : AV) : aStore prog σ 94 v p = aStoreN σ 1 v p := aStore_eq (by kernel_rfl) σ v p
theorem len94 (σ : Sto) (x : AV) : aLen prog σ 94 x = aLenSl x := aLen_sl (by kernel_rfl) σ x
theorem idx94 (x i : AV) : aIndexAddr prog 94 x i = aAt 2 x i := aIndexAddr_eq (by kernel_rfl) x i
theorem app94 (σ : Sto) (u : TypeId) (nl : Bool) (es : List AV) (k : Nat) (x : AV) : aAppendO prog σ 94 u nl 2 es k x = (aSrcE prog u 2 x).bind fun ds => appAt σ nl 2 24 es k ds σ[k]? := aAppendO_eq (by kernel_rfl) σ nl es k x
theorem src94 (x : AV) : aSrcE prog 94 2 x = aSrcS 2 x := aSrcE_sl (by kernel_rfl) 2 x
theorem nil94 (σ : Sto) (u : TypeId) (y : AV) : aApp prog false σ 94 u .nilsl y = aAppendO prog (σ ++ [.cap 0 2]) 94 u true 2 [] σ.length y := aApp_nil (by kernel_rfl) (by decide) σ u y
theorem row94 {len : Nat} {parts : List (Nat × AV)} (hl : len * 2 ≤ 16777216) (hp : 0 < len) (hi : parts.map (·.1) = List.range len) (hv : ∀ p ∈ parts, p.2.cells.length = 2 ∧ p.2.cells.all AV.one = true) : aBuildRow prog 94 len parts = some (.sl 2 (parts.map (·.2))) := aBuildRow_eq (by kernel_rfl) hl hp hi hv
theorem row1_94 (σ : Sto) (v : AV) (h1 : v.cells.length = 2) (h2 : v.cells.all AV.one = true) : aRow prog false σ 94 1 [(0, v)] = some (.sl 2 [v], σ) := aRow_sl (by kernel_rfl) (by decide) (row94 (len := 1) (parts := [(0, v)]) (by decide) (by decide) rfl (by intro p hp; simp only [List.mem_singleton] at hp; subst hp; exact ⟨h1, h2⟩)) σ
theorem tM94 : tMk prog 94 = some ([.val (.string ⟨#[]⟩), .val (.int .i64 0)], 2, 24) := by kernel_rfl
theorem mk94 (σ : Sto) (k k1 : IntKind) (n : Int) : aMakeSlice prog σ 94 (.val (.int k n)) (.val (.int k1 n)) = if 0 ≤ n ∧ fits n.toNat 24 = true then some (.osl σ.length 0 n.toNat 2, σ ++ [.cells (aZeros [.val (.string ⟨#[]⟩), .val (.int .i64 0)] (n.toNat * 2))]) else none := aMakeSlice_eq tM94 σ k k1 n
theorem rowm94 (σ : Sto) (v : AV) (h0 : v.cells.length = 2) (h1 : v.cells.all AV.one = true) : aRow prog true σ 94 1 [(0, v)] = some (.osl σ.length 0 1 2, σ ++ [.cells v.cells]) := aRow_live tM94 (by decide) σ v h0 h1
theorem row0_94 (σ : Sto) : aRow prog false σ 94 0 [] = some (.slo false 2 [] σ.length, σ ++ [.cap 0 2]) := aRow_zero (by kernel_rfl) (by decide) σ
theorem tO95 : tAgg prog 95 = some none := by kernel_rfl
theorem get95 (c : AV) (cs : List AV) : aGet prog 95 (c :: cs) = some c := by rw [aGet_one tO95]; rfl
theorem zero95 : aZero prog 95 = some (.nilsl) := by kernel_rfl
theorem alloc95 (σ : Sto) : aAlloc prog σ 95 = aNewVar σ (.nilsl) := alloc_eq (by kernel_rfl) σ
theorem sto95 (σ : Sto) (v p : AV) : aStore prog σ 95 v p = aStoreN σ 1 v p := aStore_eq (by kernel_rfl) σ v p
theorem len95 (σ : Sto) (x : AV) : aLen prog σ 95 x = aLenSl x := aLen_sl (by kernel_rfl) σ x
theorem idx95 (x i : AV) : aIndexAddr prog 95 x i = aAt 6 x i := aIndexAddr_eq (by kernel_rfl) x i
theorem app95 (σ : Sto) (u : TypeId) (nl : Bool) (es : List AV) (k : Nat) (x : AV) : aAppendO prog σ 95 u nl 6 es k x = (aSrcE prog u 6 x).bind fun ds => appAt σ nl 6 88 es k ds σ[k]? := aAppendO_eq (by kernel_rfl) σ nl es k x
theorem src95 (x : AV) : aSrcE prog 95 6 x = aSrcS 6 x := aSrcE_sl (by kernel_rfl) 6 x
theorem nil95 (σ : Sto) (u : TypeId) (y : AV) : aApp prog false σ 95 u .nilsl y = aAppendO prog (σ ++ [.cap 0 6]) 95 u true 6 [] σ.length y := aApp_nil (by kernel_rfl) (by decide) σ u y
theorem row95 {len : Nat} {parts : List (Nat × AV)} (hl : len * 6 ≤ 16777216) (hp : 0 < len) (hi : parts.map (·.1) = List.range len) (hv : ∀ p ∈ parts, p.2.cells.length = 6 ∧ p.2.cells.all AV.one = true) : aBuildRow prog 95 len parts = some (.sl 6 (parts.map (·.2))) := aBuildRow_eq (by kernel_rfl) hl hp hi hv
theorem row1_95 (σ : Sto) (v : AV) (h1 : v.cells.length = 6) (h2 : v.cells.all AV.one = true) : aRow prog false σ 95 1 [(0, v)] = some (.sl 6 [v], σ) := aRow_sl (by kernel_rfl) (by decide) (row95 (len := 1) (parts := [(0, v)]) (by decide) (by decide) rfl (by intro p hp; simp only [List.mem_singleton] at hp; subst hp; exact ⟨h1, h2⟩)) σ
theorem tM95 : tMk prog 95 = some ([.nilsl, .val (.int .i64 0), .val (.int .i64 0), .val (.int .i64 0), .val (.string ⟨#[]⟩), .nilsl], 6, 88) := by kernel_rfl
theorem mk95 (σ : Sto) (k k1 : IntKind) (n : Int) : aMakeSlice prog σ 95 (.val (.int k n)) (.val (.int k1 n)) = if 0 ≤ n ∧ fits n.toNat 88 = true then some (.osl σ.length 0 n.toNat 6, σ ++ [.cells (aZeros [.nilsl, .val (.int .i64 0), .val (.int .i64 0), .val (.int .i64 0), .val (.string ⟨#[]⟩), .nilsl] (n.toNat * 6))]) else none := aMakeSlice_eq tM95 σ k k1 n
theorem rowm95 (σ : Sto) (v : AV) (h0 : v.cells.length = 6) (h1 : v.cells.all AV.one = true) : aRow prog true σ 95 1 [(0, v)] = some (.osl σ.length 0 1 6, σ ++ [.cells v.cells]) := aRow_live tM95 (by decide) σ v h0 h1
theorem row0_95 (σ : Sto) : aRow prog false σ 95 0 [] = some (.slo false 6 [] σ.length, σ ++ [.cap 0 6]) := aRow_zero (by kernel_rfl) (by decide) σ
theorem tA97 : tAgg prog 97 = some (some 5) := by kernel_rfl
theorem get97 (a0 a1 a2 a3 a4 : AV) (l : List AV) : aGet prog 97 (a0 :: a1 :: a2 :: a3 :: a4 :: l) = some (.agg [a0, a1, a2, a3, a4]) := by rw [aGet_many tA97, if_pos (by simp)]; rfl
theorem fA97_0 (p : AV) : aFieldAddr prog 97 0 p = aOff 0 p := aFieldAddr_eq (t := 9) (by kernel_rfl) p
theorem fd97_0 (cs : List AV) : aField prog 97 0 (.agg cs) = cs[0]? := aField_eq (t := 9) (r := none) (by kernel_rfl) (by kernel_rfl) cs
theorem fA97_1 (p : AV) : aFieldAddr prog 97 1 p = aOff 1 p := aFieldAddr_eq (t := 94) (by kernel_rfl) p
theorem fd97_1 (cs : List AV) : aField prog 97 1 (.agg cs) = cs[1]? := aField_eq (t := 94) (r := none) (by kernel_rfl) (by kernel_rfl) cs
theorem fA97_2 (p : AV) : aFieldAddr prog 97 2 p = aOff 2 p := aFieldAddr_eq (t := 94) (by kernel_rfl) p
theorem fd97_2 (cs : List AV) : aField prog 97 2 (.agg cs) = cs[2]? := aField_eq (t := 94) (r := none) (by kernel_rfl) (by kernel_rfl) cs
theorem fA97_3 (p : AV) : aFieldAddr prog 97 3 p = aOff 3 p := aFieldAddr_eq (t := 94) (by kernel_rfl) p
theorem fd97_3 (cs : List AV) : aField prog 97 3 (.agg cs) = cs[3]? := aField_eq (t := 94) (r := none) (by kernel_rfl) (by kernel_rfl) cs
theorem fA97_4 (p : AV) : aFieldAddr prog 97 4 p = aOff 4 p := aFieldAddr_eq (t := 95) (by kernel_rfl) p
theorem fd97_4 (cs : List AV) : aField prog 97 4 (.agg cs) = cs[4]? := aField_eq (t := 95) (r := none) (by kernel_rfl) (by kernel_rfl) cs
theorem bld97 (parts : List (Nat × AV)) : aBuild prog 97 parts = (aFill (fun j => [(0, 1), (1, 1), (2, 1), (3, 1), (4, 1)][j]?) [.val (.string ⟨#[]⟩), .nilsl, .nilsl, .nilsl, .nilsl] parts).map .agg := aBuild_eq (by kernel_rfl) parts
theorem zero97 : aZero prog 97 = some (.agg [.val (.string ⟨#[]⟩), .nilsl, .nilsl, .nilsl, .nilsl]) := by kernel_rfl
theorem alloc97 (σ : Sto) : aAlloc prog σ 97 = aNewVar σ (.agg [.val (.string ⟨#[]⟩), .nilsl, .nilsl, .nilsl, .nilsl]) := alloc_eq (by kernel_rfl) σ
theorem sto97 (σ : Sto) (v p : AV) : aStore prog σ 97 v p = aStoreN σ 5 v p := aStore_eq (by kernel_rfl) σ v p
theorem tO100 : tAgg prog 100 = some none := by kernel_rfl
theorem get100 (c : AV) (cs : List AV) : aGet prog 100 (c :: cs) = some c := by rw [aGet_one tO100]; rfl
theorem zero100 : aZero prog 100 = some (.val (.int .i64 0)) := by kernel_rfl
theorem alloc100 (σ : Sto) : aAlloc prog σ 100 = aNewVar σ (.val (.int .i64 0)) := alloc_eq (by kernel_rfl) σ
theorem sto100 (σ : Sto) (v p : AV) : aStore prog σ 100 v p = aStoreN σ 1 v p := aStore_eq (by kernel_rfl) σ v p
theorem tO103 : tAgg prog 103 = some none := by kernel_rfl
theorem get103 (c : AV) (cs : List AV) : aGet prog 103 (c :: cs) = some c := by rw [aGet_one tO103]; rfl
theorem zero103 : aZero prog 103 = some (.nilsl) := by kernel_rfl
theorem alloc103 (σ : Sto) : aAlloc prog σ 103 = aNewVar σ (.nilsl) := alloc_eq (by kernel_rfl) σ
theorem sto103 (σ : Sto) (v p : AV) : aStore prog σ 103 v p = aStoreN σ 1 v p := aStore_eq (by kernel_rfl) σ v p
theorem len103 (σ : Sto) (x : AV) : aLen prog σ 103 x = aLenSl x := aLen_sl (by kernel_rfl) σ x
theorem idx103 (x i : AV) : aIndexAddr prog 103 x i = aAt 2 x i := aIndexAddr_eq (by kernel_rfl) x i
theorem app103 (σ : Sto) (u : TypeId) (nl : Bool) (es : List AV) (k : Nat) (x : AV) : aAppendO prog σ 103 u nl 2 es k x = (aSrcE prog u 2 x).bind fun ds => appAt σ nl 2 24 es k ds σ[k]? := aAppendO_eq (by kernel_rfl) σ nl es k x
theorem src103 (x : AV) : aSrcE prog 103 2 x = aSrcS 2 x := aSrcE_sl (by kernel_rfl) 2 x
theorem nil103 (σ : Sto) (u : TypeId) (y : AV) : aApp prog false σ 103 u .nilsl y = aAppendO prog (σ ++ [.cap 0 2]) 103 u true 2 [] σ.length y := aApp_nil (by kernel_rfl) (by decide) σ u y
theorem row103 {len : Nat} {parts : List (Nat × AV)} (hl : len * 2 ≤ 16777216) (hp : 0 < len) (hi : parts.map (·.1) = List.range len) (hv : ∀ p ∈ parts, p.2.cells.length = 2 ∧ p.2.cells.all AV.one = true) : aBuildRow prog 103 len parts = some (.sl 2 (parts.map (·.2))) := aBuildRow_eq (by kernel_rfl) hl hp hi hv
theorem row1_103 (σ : Sto) (v : AV) (h1 : v.cells.length = 2) (h2 : v.cells.all AV.one = true) : aRow prog false σ 103 1 [(0, v)] = some (.sl 2 [v], σ) := aRow_sl (by kernel_rfl) (by decide) (row103 (len := 1) (parts := [(0, v)]) (by decide) (by decide) rfl (by intro p hp; simp only [List.mem_singleton] at hp; subst hp; exact ⟨h1, h2⟩)) σ
theorem tM103 : tMk prog 103 = some ([.val (.string ⟨#[]⟩), .val (.int .i64 0)], 2, 24) := by kernel_rfl
theorem mk103 (σ : Sto) (k k1 : IntKind) (n : Int) : aMakeSlice prog σ 103 (.val (.int k n)) (.val (.int k1 n)) = if 0 ≤ n ∧ fits n.toNat 24 = true then some (.osl σ.length 0 n.toNat 2, σ ++ [.cells (aZeros [.val (.string ⟨#[]⟩), .val (.int .i64 0)] (n.toNat * 2))]) else none := aMakeSlice_eq tM103 σ k k1 n
theorem rowm103 (σ : Sto) (v : AV) (h0 : v.cells.length = 2) (h1 : v.cells.all AV.one = true) : aRow prog true σ 103 1 [(0, v)] = some (.osl σ.length 0 1 2, σ ++ [.cells v.cells]) := aRow_live tM103 (by decide) σ v h0 h1
theorem row0_103 (σ : Sto) : aRow prog false σ 103 0 [] = some (.slo false 2 [] σ.length, σ ++ [.cap 0 2]) := aRow_zero (by kernel_rfl) (by decide) σ
theorem tO104 : tAgg prog 104 = some none := by kernel_rfl
theorem get104 (c : AV) (cs : List AV) : aGet prog 104 (c :: cs) = some c := by rw [aGet_one tO104]; rfl
theorem zero104 : aZero prog 104 = some (.nilsl) := by kernel_rfl
theorem alloc104 (σ : Sto) : aAlloc prog σ 104 = aNewVar σ (.nilsl) := alloc_eq (by kernel_rfl) σ
theorem sto104 (σ : Sto) (v p : AV) : aStore prog σ 104 v p = aStoreN σ 1 v p := aStore_eq (by kernel_rfl) σ v p
theorem len104 (σ : Sto) (x : AV) : aLen prog σ 104 x = aLenSl x := aLen_sl (by kernel_rfl) σ x
theorem idx104 (x i : AV) : aIndexAddr prog 104 x i = aAt 4 x i := aIndexAddr_eq (by kernel_rfl) x i
theorem app104 (σ : Sto) (u : TypeId) (nl : Bool) (es : List AV) (k : Nat) (x : AV) : aAppendO prog σ 104 u nl 4 es k x = (aSrcE prog u 4 x).bind fun ds => appAt σ nl 4 40 es k ds σ[k]? := aAppendO_eq (by kernel_rfl) σ nl es k x
theorem src104 (x : AV) : aSrcE prog 104 4 x = aSrcS 4 x := aSrcE_sl (by kernel_rfl) 4 x
theorem nil104 (σ : Sto) (u : TypeId) (y : AV) : aApp prog false σ 104 u .nilsl y = aAppendO prog (σ ++ [.cap 0 4]) 104 u true 4 [] σ.length y := aApp_nil (by kernel_rfl) (by decide) σ u y
theorem row104 {len : Nat} {parts : List (Nat × AV)} (hl : len * 4 ≤ 16777216) (hp : 0 < len) (hi : parts.map (·.1) = List.range len) (hv : ∀ p ∈ parts, p.2.cells.length = 4 ∧ p.2.cells.all AV.one = true) : aBuildRow prog 104 len parts = some (.sl 4 (parts.map (·.2))) := aBuildRow_eq (by kernel_rfl) hl hp hi hv
theorem row1_104 (σ : Sto) (v : AV) (h1 : v.cells.length = 4) (h2 : v.cells.all AV.one = true) : aRow prog false σ 104 1 [(0, v)] = some (.sl 4 [v], σ) := aRow_sl (by kernel_rfl) (by decide) (row104 (len := 1) (parts := [(0, v)]) (by decide) (by decide) rfl (by intro p hp; simp only [List.mem_singleton] at hp; subst hp; exact ⟨h1, h2⟩)) σ
theorem tM104 : tMk prog 104 = some ([.val (.string ⟨#[]⟩), .val (.int .i64 0), .val (.int .i64 0), .val (.int .i64 0)], 4, 40) := by kernel_rfl
theorem mk104 (σ : Sto) (k k1 : IntKind) (n : Int) : aMakeSlice prog σ 104 (.val (.int k n)) (.val (.int k1 n)) = if 0 ≤ n ∧ fits n.toNat 40 = true then some (.osl σ.length 0 n.toNat 4, σ ++ [.cells (aZeros [.val (.string ⟨#[]⟩), .val (.int .i64 0), .val (.int .i64 0), .val (.int .i64 0)] (n.toNat * 4))]) else none := aMakeSlice_eq tM104 σ k k1 n
theorem rowm104 (σ : Sto) (v : AV) (h0 : v.cells.length = 4) (h1 : v.cells.all AV.one = true) : aRow prog true σ 104 1 [(0, v)] = some (.osl σ.length 0 1 4, σ ++ [.cells v.cells]) := aRow_live tM104 (by decide) σ v h0 h1
theorem row0_104 (σ : Sto) : aRow prog false σ 104 0 [] = some (.slo false 4 [] σ.length, σ ++ [.cap 0 4]) := aRow_zero (by kernel_rfl) (by decide) σ
theorem tO105 : tAgg prog 105 = some none := by kernel_rfl
theorem get105 (c : AV) (cs : List AV) : aGet prog 105 (c :: cs) = some c := by rw [aGet_one tO105]; rfl
theorem zero105 : aZero prog 105 = some (.nilsl) := by kernel_rfl
theorem alloc105 (σ : Sto) : aAlloc prog σ 105 = aNewVar σ (.nilsl) := alloc_eq (by kernel_rfl) σ
theorem sto105 (σ : Sto) (v p : AV) : aStore prog σ 105 v p = aStoreN σ 1 v p := aStore_eq (by kernel_rfl) σ v p
theorem len105 (σ : Sto) (x : AV) : aLen prog σ 105 x = aLenSl x := aLen_sl (by kernel_rfl) σ x
theorem idx105 (x i : AV) : aIndexAddr prog 105 x i = aAt 7 x i := aIndexAddr_eq (by kernel_rfl) x i
theorem app105 (σ : Sto) (u : TypeId) (nl : Bool) (es : List AV) (k : Nat) (x : AV) : aAppendO prog σ 105 u nl 7 es k x = (aSrcE prog u 7 x).bind fun ds => appAt σ nl 7 64 es k ds σ[k]? := aAppendO_eq (by kernel_rfl) σ nl es k x
theorem src105 (x : AV) : aSrcE prog 105 7 x = aSrcS 7 x := aSrcE_sl (by kernel_rfl) 7 x
theorem nil105 (σ : Sto) (u : TypeId) (y : AV) : aApp prog false σ 105 u .nilsl y = aAppendO prog (σ ++ [.cap 0 7]) 105 u true 7 [] σ.length y := aApp_nil (by kernel_rfl) (by decide) σ u y
theorem row105 {len : Nat} {parts : List (Nat × AV)} (hl : len * 7 ≤ 16777216) (hp : 0 < len) (hi : parts.map (·.1) = List.range len) (hv : ∀ p ∈ parts, p.2.cells.length = 7 ∧ p.2.cells.all AV.one = true) : aBuildRow prog 105 len parts = some (.sl 7 (parts.map (·.2))) := aBuildRow_eq (by kernel_rfl) hl hp hi hv
theorem row1_105 (σ : Sto) (v : AV) (h1 : v.cells.length = 7) (h2 : v.cells.all AV.one = true) : aRow prog false σ 105 1 [(0, v)] = some (.sl 7 [v], σ) := aRow_sl (by kernel_rfl) (by decide) (row105 (len := 1) (parts := [(0, v)]) (by decide) (by decide) rfl (by intro p hp; simp only [List.mem_singleton] at hp; subst hp; exact ⟨h1, h2⟩)) σ
theorem tM105 : tMk prog 105 = some ([.val (.int .i64 0), .val (.int .i64 0), .val (.int .i64 0), .val (.int .i64 0), .val (.int .i32 0), .val (.int .i32 0), .nilsl], 7, 64) := by kernel_rfl
theorem mk105 (σ : Sto) (k k1 : IntKind) (n : Int) : aMakeSlice prog σ 105 (.val (.int k n)) (.val (.int k1 n)) = if 0 ≤ n ∧ fits n.toNat 64 = true then some (.osl σ.length 0 n.toNat 7, σ ++ [.cells (aZeros [.val (.int .i64 0), .val (.int .i64 0), .val (.int .i64 0), .val (.int .i64 0), .val (.int .i32 0), .val (.int .i32 0), .nilsl] (n.toNat * 7))]) else none := aMakeSlice_eq tM105 σ k k1 n
theorem rowm105 (σ : Sto) (v : AV) (h0 : v.cells.length = 7) (h1 : v.cells.all AV.one = true) : aRow prog true σ 105 1 [(0, v)] = some (.osl σ.length 0 1 7, σ ++ [.cells v.cells]) := aRow_live tM105 (by decide) σ v h0 h1
theorem row0_105 (σ : Sto) : aRow prog false σ 105 0 [] = some (.slo false 7 [] σ.length, σ ++ [.cap 0 7]) := aRow_zero (by kernel_rfl) (by decide) σ
theorem tA107 : tAgg prog 107 = some (some 4) := by kernel_rfl
theorem get107 (a0 a1 a2 a3 : AV) (l : List AV) : aGet prog 107 (a0 :: a1 :: a2 :: a3 :: l) = some (.agg [a0, a1, a2, a3]) := by rw [aGet_many tA107, if_pos (by simp)]; rfl
theorem fA107_0 (p : AV) : aFieldAddr prog 107 0 p = aOff 0 p := aFieldAddr_eq (t := 9) (by kernel_rfl) p
theorem fd107_0 (cs : List AV) : aField prog 107 0 (.agg cs) = cs[0]? := aField_eq (t := 9) (r := none) (by kernel_rfl) (by kernel_rfl) cs
theorem fA107_1 (p : AV) : aFieldAddr prog 107 1 p = aOff 1 p := aFieldAddr_eq (t := 103) (by kernel_rfl) p
theorem fd107_1 (cs : List AV) : aField prog 107 1 (.agg cs) = cs[1]? := aField_eq (t := 103) (r := none) (by kernel_rfl) (by kernel_rfl) cs
theorem fA107_2 (p : AV) : aFieldAddr prog 107 2 p = aOff 2 p := aFieldAddr_eq (t := 104) (by kernel_rfl) p
theorem fd107_2 (cs : List AV) : aField prog 107 2 (.agg cs) = cs[2]? := aField_eq (t := 104) (r := none) (by kernel_rfl) (by kernel_rfl) cs
theorem fA107_3 (p : AV) : aFieldAddr prog 107 3 p = aOff 3 p := aFieldAddr_eq (t := 105) (by kernel_rfl) p
theorem fd107_3 (cs : List AV) : aField prog 107 3 (.agg cs) = cs[3]? := aField_eq (t := 105) (r := none) (by kernel_rfl) (by kernel_rfl) cs
theorem bld107 (parts : List (Nat × AV)) : aBuild prog 107 parts = (aFill (fun j => [(0, 1), (1, 1), (2, 1), (3, 1)][j]?) [.val (.string ⟨#[]⟩), .nilsl, .nilsl, .nilsl] parts).map .agg := aBuild_eq (by kernel_rfl) parts
theorem zero107 : aZero prog 107 = some (.agg [.val (.string ⟨#[]⟩), .nilsl, .nilsl, .nilsl]) := by kernel_rfl
theorem alloc107 (σ : Sto) : aAlloc prog σ 107 = aNewVar σ (.agg [.val (.string ⟨#[]⟩), .nilsl, .nilsl, .nilsl]) := alloc_eq (by kernel_rfl) σ
theorem sto107 (σ : Sto) (v p : AV) : aStore prog σ 107 v p = aStoreN σ 4 v p := aStore_eq (by kernel_rfl) σ v p
theorem tA108 : tAgg prog 108 = some (some 2) := by kernel_rfl
theorem get108 (a0 a1 : AV) (l : List AV) : aGet prog 108 (a0 :: a1 :: l) = some (.agg [a0, a1]) := by rw [aGet_many tA108, if_pos (by simp)]; rfl
theorem fA108_0 (p : AV) : aFieldAddr prog 108 0 p = aOff 0 p := aFieldAddr_eq (t := 3) (by kernel_rfl) p
theorem fd108_0 (cs : List AV) : aField prog 108 0 (.agg cs) = cs[0]? := aField_eq (t := 3) (r := none) (by kernel_rfl) (by kernel_rfl) cs
theorem fA108_1 (p : AV) : aFieldAddr prog 108 1 p = aOff 1 p := aFieldAddr_eq (t := 3) (by kernel_rfl) p
theorem fd108_1 (cs : List AV) : aField prog 108 1 (.agg cs) = cs[1]? := aField_eq (t := 3) (r := none) (by kernel_rfl) (by kernel_rfl) cs
theorem bld108 (parts : List (Nat × AV)) : aBuild prog 108 parts = (aFill (fun j => [(0, 1), (1, 1)][j]?) [.val (.int .i64 0), .val (.int .i64 0)] parts).map .agg := aBuild_eq (by kernel_rfl) parts
theorem zero108 : aZero prog 108 = some (.agg [.val (.int .i64 0), .val (.int .i64 0)]) := by kernel_rfl
theorem alloc108 (σ : Sto) : aAlloc prog σ 108 = aNewVar σ (.agg [.val (.int .i64 0), .val (.int .i64 0)]) := alloc_eq (by kernel_rfl) σ
theorem sto108 (σ : Sto) (v p : AV) : aStore prog σ 108 v p = aStoreN σ 2 v p := aStore_eq (by kernel_rfl) σ v p
theorem tO111 : tAgg prog 111 = some none := by kernel_rfl
theorem get111 (c : AV) (cs : List AV) : aGet prog 111 (c :: cs) = some c := by rw [aGet_one tO111]; rfl
theorem zero111 : aZero prog 111 = some (.val .nilFunc) := by kernel_rfl
theorem alloc111 (σ : Sto) : aAlloc prog σ 111 = aNewVar σ (.val .nilFunc) := alloc_eq (by kernel_rfl) σ
theorem sto111 (σ : Sto) (v p : AV) : aStore prog σ 111 v p = aStoreN σ 1 v p := aStore_eq (by kernel_rfl) σ v p
theorem tO114 : tAgg prog 114 = some none := by kernel_rfl
theorem get114 (c : AV) (cs : List AV) : aGet prog 114 (c :: cs) = some c := by rw [aGet_one tO114]; rfl
theorem zero114 : aZero prog 114 = some (.val .nilFunc) := by kernel_rfl
theorem alloc114 (σ : Sto) : aAlloc prog σ 114 = aNewVar σ (.val .nilFunc) := alloc_eq (by kernel_rfl) σ
theorem sto114 (σ : Sto) (v p : AV) : aStore prog σ 114 v p = aStoreN σ 1 v p := aStore_eq (by kernel_rfl) σ v p
theorem tO116 : tAgg prog 116 = some none := by kernel_rfl
theorem get116 (c : AV) (cs : List AV) : aGet prog 116 (c :: cs) = some c := by rw [aGet_one tO116]; rfl
theorem zero116 : aZero prog 116 = some (.val .nilFunc) := by kernel_rfl
theorem alloc116 (σ : Sto) : aAlloc prog σ 116 = aNewVar σ (.val .nilFunc) := alloc_eq (by kernel_rfl) σ
theorem sto116 (σ : Sto) (v p : AV) : aStore prog σ 116 v p = aStoreN σ 1 v p := aStore_eq (by kernel_rfl) σ v p
theorem tA118 : tAgg prog 118 = some (some 2) := by kernel_rfl
theorem get118 (a0 a1 : AV) (l : List AV) : aGet prog 118 (a0 :: a1 :: l) = some (.agg [a0, a1]) := by rw [aGet_many tA118, if_pos (by simp)]; rfl
theorem fA118_0 (p : AV) : aFieldAddr prog 118 0 p = aOff 0 p := aFieldAddr_eq (t := 9) (by kernel_rfl) p
theorem fd118_0 (cs : List AV) : aField prog 118 0 (.agg cs) = cs[0]? := aField_eq (t := 9) (r := none) (by kernel_rfl) (by kernel_rfl) cs
theorem fA118_1 (p : AV) : aFieldAddr prog 118 1 p = aOff 1 p := aFieldAddr_eq (t := 3) (by kernel_rfl) p
theorem fd118_1 (cs : List AV) : aField prog 118 1 (.agg cs) = cs[1]? := aField_eq (t := 3) (r := none) (by kernel_rfl) (by kernel_rfl) cs
theorem bld118 (parts : List (Nat × AV)) : aBuild prog 118 parts = (aFill (fun j => [(0, 1), (1, 1)][j]?) [.val (.string ⟨#[]⟩), .val (.int .i64 0)] parts).map .agg := aBuild_eq (by kernel_rfl) parts
theorem zero118 : aZero prog 118 = some (.agg [.val (.string ⟨#[]⟩), .val (.int .i64 0)]) := by kernel_rfl
theorem alloc118 (σ : Sto) : aAlloc prog σ 118 = aNewVar σ (.agg [.val (.string ⟨#[]⟩), .val (.int .i64 0)]) := alloc_eq (by kernel_rfl) σ
theorem sto118 (σ : Sto) (v p : AV) : aStore prog σ 118 v p = aStoreN σ 2 v p := aStore_eq (by kernel_rfl) σ v p
theorem tA120 : tAgg prog 120 = some (some 4) := by kernel_rfl
theorem get120 (a0 a1 a2 a3 : AV) (l : List AV) : aGet prog 120 (a0 :: a1 :: a2 :: a3 :: l) = some (.agg [a0, a1, a2, a3]) := by rw [aGet_many tA120, if_pos (by simp)]; rfl
theorem fA120_0 (p : AV) : aFieldAddr prog 120 0 p = aOff 0 p := aFieldAddr_eq (t := 118) (by kernel_rfl) p
theorem fd120_0 (cs : List AV) : aField prog 120 0 (.agg cs) = some (.agg ((cs.drop 0).take 2)) := aField_eq (t := 118) (r := some 2) (by kernel_rfl) (by kernel_rfl) cs
theorem fA120_1 (p : AV) : aFieldAddr prog 120 1 p = aOff 2 p := aFieldAddr_eq (t := 108) (by kernel_rfl) p
theorem fd120_1 (cs : List AV) : aField prog 120 1 (.agg cs) = some (.agg ((cs.drop 2).take 2)) := aField_eq (t := 108) (r := some 2) (by kernel_rfl) (by kernel_rfl) cs
theorem bld120 (parts : List (Nat × AV)) : aBuild prog 120 parts = (aFill (fun j => [(0, 2), (2, 2)][j]?) [.val (.string ⟨#[]⟩), .val (.int .i64 0), .val (.int .i64 0), .val (.int .i64 0)] parts).map .agg := aBuild_eq (by kernel_rfl) parts
theorem zero120 : aZero prog 120 = some (.agg [.val (.string ⟨#[]⟩), .val (.int .i64 0), .val (.int .i64 0), .val (.int .i64 0)]) := by kernel_rfl
theorem alloc120 (σ : Sto) : aAlloc prog σ 120 = aNewVar σ (.agg [.val (.string ⟨#[]⟩), .val (.int .i64 0), .val (.int .i64 0), .val (.int .i64 0)]) := alloc_eq (by kernel_rfl) σ
theorem sto120 (σ : Sto) (v p : AV) : aStore prog σ 120 v p = aStoreN σ 4 v p := aStore_eq (by kernel_rfl) σ v p
theorem tO125 : tAgg prog 125 = some none := by kernel_rfl
theorem get125 (c : AV) (cs : List AV) : aGet prog 125 (c :: cs) = some c := by rw [aGet_one tO125]; rfl
theorem zero125 : aZero prog 125 = some (.val .nilFunc) := by kernel_rfl
theorem alloc125 (σ : Sto) : aAlloc prog σ 125 = aNewVar σ (.val .nilFunc) := alloc_eq (by kernel_rfl) σ
theorem sto125 (σ : Sto) (v p : AV) : aStore prog σ 125 v p = aStoreN σ 1 v p := aStore_eq (by kernel_rfl) σ v p
theorem tA128 : tAgg prog 128 = some (some 6) := by kernel_rfl
theorem get128 (a0 a1 a2 a3 a4 a5 : AV) (l : List AV) : aGet prog 128 (a0 :: a1 :: a2 :: a3 :: a4 :: a5 :: l) = some (.agg [a0, a1, a2, a3, a4, a5]) := by rw [aGet_many tA128, if_pos (by simp)]; rfl
theorem fA128_0 (p : AV) : aFieldAddr prog 128 0 p = aOff 0 p := aFieldAddr_eq (t := 79) (by kernel_rfl) p
theorem fd128_0 (cs : List AV) : aField prog 128 0 (.agg cs) = cs[0]? := aField_eq (t := 79) (r := none) (by kernel_rfl) (by kernel_rfl) cs
theorem fA128_1 (p : AV) : aFieldAddr prog 128 1 p = aOff 1 p := aFieldAddr_eq (t := 47) (by kernel_rfl) p
theorem fd128_1 (cs : List AV) : aField prog 128 1 (.agg cs) = some (.agg ((cs.drop 1).take 5)) := aField_eq (t := 47) (r := some 5) (by kernel_rfl) (by kernel_rfl) cs
theorem bld128 (parts : List (Nat × AV)) : aBuild prog 128 parts = (aFill (fun j => [(0, 1), (1, 5)][j]?) [.nilsl, .val (.int .i64 0), .val (.int .i64 0), .val (.int .i64 0), .val (.string ⟨#[]⟩), .nilsl] parts).map .agg := aBuild_eq (by kernel_rfl) parts
theorem zero128 : aZero prog 128 = some (.agg [.nilsl, .val (.int .i64 0), .val (.int .i64 0), .val (.int .i64 0), .val (.string ⟨#[]⟩), .nilsl]) := by kernel_rfl
theorem alloc128 (σ : Sto) : aAlloc prog σ 128 = aNewVar σ (.agg [.nilsl, .val (.int .i64 0), .val (.int .i64 0), .val (.int .i64 0), .val (.string ⟨#[]⟩), .nilsl]) := alloc_eq (by kernel_rfl) σ
theorem sto128 (σ : Sto) (v p : AV) : aStore prog σ 128 v p = aStoreN σ 6 v p := aStore_eq (by kernel_rfl) σ v p
theorem tO130 : tAgg prog 130 = some none := by kernel_rfl
theorem get130 (c : AV) (cs : List AV) : aGet prog 130 (c :: cs) = some c := by rw [aGet_one tO130]; rfl
theorem zero130 : aZero prog 130 = some (.val .nilFunc) := by kernel_rfl
theorem alloc130 (σ : Sto) : aAlloc prog σ 130 = aNewVar σ (.val .nilFunc) := alloc_eq (by kernel_rfl) σ
theorem sto130 (σ : Sto) (v p : AV) : aStore prog σ 130 v p = aStoreN σ 1 v p := aStore_eq (by kernel_rfl) σ v p
theorem tO133 : tAgg prog 133 = some none := by kernel_rfl
theorem get133 (c : AV) (cs : List AV) : aGet prog 133 (c :: cs) = some c := by rw [aGet_one tO133]; rfl
theorem zero133 : aZero prog 133 = some (.val .nilFunc) := by kernel_rfl
theorem alloc133 (σ : Sto) : aAlloc prog σ 133 = aNewVar σ (.val .nilFunc) := alloc_eq (by kernel_rfl) σ
theorem sto133 (σ : Sto) (v p : AV) : aStore prog σ 133 v p = aStoreN σ 1 v p := aStore_eq (by kernel_rfl) σ v p
theorem tO136 : tAgg prog 136 = some none := by kernel_rfl
theorem get136 (c : AV) (cs : List AV) : aGet prog 136 (c :: cs) = some c := by rw [aGet_one tO136]; rfl
theorem zero136 : aZero prog 136 = some (.nilsl) := by kernel_rfl
theorem alloc136 (σ : Sto) : aAlloc prog σ 136 = aNewVar σ (.nilsl) := alloc_eq (by kernel_rfl) σ
theorem sto136 (σ : Sto) (v p : AV) : aStore prog σ 136 v p = aStoreN σ 1 v p := aStore_eq (by kernel_rfl) σ v p
theorem len136 (σ : Sto) (x : AV) : aLen prog σ 136 x = aLenSl x := aLen_sl (by kernel_rfl) σ x
theorem idx136 (x i : AV) : aIndexAddr prog 136 x i = aAt 1 x i := aIndexAddr_eq (by kernel_rfl) x i
theorem app136 (σ : Sto) (u : TypeId) (nl : Bool) (es : List AV) (k : Nat) (x : AV) : aAppendO prog σ 136 u nl 1 es k x = (aSrcE prog u 1 x).bind fun ds => appAt σ nl 1 8 es k ds σ[k]? := aAppendO_eq (by kernel_rfl) σ nl es k x
theorem src136 (x : AV) : aSrcE prog 136 1 x = aSrcS 1 x := aSrcE_sl (by kernel_rfl) 1 x
theorem nil136 (σ : Sto) (u : TypeId) (y : AV) : aApp prog false σ 136 u .nilsl y = aAppendO prog (σ ++ [.cap 0 1]) 136 u true 1 [] σ.length y := aApp_nil (by kernel_rfl) (by decide) σ u y
theorem row136 {len : Nat} {parts : List (Nat × AV)} (hl : len * 1 ≤ 16777216) (hp : 0 < len) (hi : parts.map (·.1) = List.range len) (hv : ∀ p ∈ parts, p.2.cells.length = 1 ∧ p.2.cells.all AV.one = true) : aBuildRow prog 136 len parts = some (.sl 1 (parts.map (·.2))) := aBuildRow_eq (by kernel_rfl) hl hp hi hv
theorem row1_136 (σ : Sto) (v : AV) (h1 : v.cells.length = 1) (h2 : v.cells.all AV.one = true) : aRow prog false σ 136 1 [(0, v)] = some (.sl 1 [v], σ) := aRow_sl (by kernel_rfl) (by decide) (row136 (len := 1) (parts := [(0, v)]) (by decide) (by decide) rfl (by intro p hp; simp only [List.mem_singleton] at hp; subst hp; exact ⟨h1, h2⟩)) σ
theorem tM136 : tMk prog 136 = some ([.val (.int .i64 0)], 1, 8) := by kernel_rfl
theorem mk136 (σ : Sto) (k k1 : IntKind) (n : Int) : aMakeSlice prog σ 136 (.val (.int k n)) (.val (.int k1 n)) = if 0 ≤ n ∧ fits n.toNat 8 = true then some (.osl σ.length 0 n.toNat 1, σ ++ [.cells (aZeros [.val (.int .i64 0)] (n.toNat * 1))]) else none := aMakeSlice_eq tM136 σ k k1 n
theorem rowm136 (σ : Sto) (v : AV) (h0 : v.cells.length = 1) (h1 : v.cells.all AV.one = true) : aRow prog true σ 136 1 [(0, v)] = some (.osl σ.length 0 1 1, σ ++ [.cells v.cells]) := aRow_live tM136 (by decide) σ v h0 h1
theorem row0_136 (σ : Sto) : aRow prog false σ 136 0 [] = some (.slo false 1 [] σ.length, σ ++ [.cap 0 1]) := aRow_zero (by kernel_rfl) (by decide) σ
theorem tO139 : tAgg prog 139 = some none := by kernel_rfl
theorem get139 (c : AV) (cs : List AV) : aGet prog 139 (c :: cs) = some c := by rw [aGet_one tO139]; rfl
theorem zero139 : aZero prog 139 = some (.val (.map none)) := by kernel_rfl
theorem alloc139 (σ : Sto) : aAlloc prog σ 139 = aNewVar σ (.val (.map none)) := alloc_eq (by kernel_rfl) σ
theorem sto139 (σ : Sto) (v p : AV) : aStore prog σ 139 v p = aStoreN σ 1 v p := aStore_eq (by kernel_rfl) σ v p
theorem tO142 : tAgg prog 142 = some none := by kernel_rfl
theorem get142 (c : AV) (cs : List AV) : aGet prog 142 (c :: cs) = some c := by rw [aGet_one tO142]; rfl
theorem zero142 : aZero prog 142 = some (.val .nilFunc) := by kernel_rfl
theorem alloc142 (σ : Sto) : aAlloc prog σ 142 = aNewVar σ (.val .nilFunc) := alloc_eq (by kernel_rfl) σ
theorem sto142 (σ : Sto) (v p : AV) : aStore prog σ 142 v p = aStoreN σ 1 v p := aStore_eq (by kernel_rfl) σ v p
theorem tO145 : tAgg prog 145 = some none := by kernel_rfl
theorem get145 (c : AV) (cs : List AV) : aGet prog 145 (c :: cs) = some c := by rw [aGet_one tO145]; rfl
theorem zero145 : aZero prog 145 = some (.val (.map none)) := by kernel_rfl
theorem alloc145 (σ : Sto) : aAlloc prog σ 145 = aNewVar σ (.val (.map none)) := alloc_eq (by kernel_rfl) σ
theorem sto145 (σ : Sto) (v p : AV) : aStore prog σ 145 v p = aStoreN σ 1 v p := aStore_eq (by kernel_rfl) σ v p
theorem tO149 : tAgg prog 149 = some none := by kernel_rfl
theorem get149 (c : AV) (cs : List AV) : aGet prog 149 (c :: cs) = some c := by rw [aGet_one tO149]; rfl
theorem zero149 : aZero prog 149 = some (.val .nilFunc) := by kernel_rfl
theorem alloc149 (σ : Sto) : aAlloc prog σ 149 = aNewVar σ (.val .nilFunc) := alloc_eq (by kernel_rfl) σ
theorem sto149 (σ : Sto) (v p : AV) : aStore prog σ 149 v p = aStoreN σ 1 v p := aStore_eq (by kernel_rfl) σ v p
theorem tO152 : tAgg prog 152 = some none := by kernel_rfl
theorem get152 (c : AV) (cs : List AV) : aGet prog 152 (c :: cs) = some c := by rw [aGet_one tO152]; rfl
theorem zero152 : aZero prog 152 = some (.val .nilFunc) := by kernel_rfl
theorem alloc152 (σ : Sto) : aAlloc prog σ 152 = aNewVar σ (.val .nilFunc) := alloc_eq (by kernel_rfl) σ
theorem sto152 (σ : Sto) (v p : AV) : aStore prog σ 152 v p = aStoreN σ 1 v p := aStore_eq (by kernel_rfl) σ v p
theorem tO155 : tAgg prog 155 = some none := by kernel_rfl
theorem get155 (c : AV) (cs : List AV) : aGet prog 155 (c :: cs) = some c := by rw [aGet_one tO155]; rfl
theorem zero155 : aZero prog 155 = some (.val .nilFunc) := by kernel_rfl
theorem alloc155 (σ : Sto) : aAlloc prog σ 155 = aNewVar σ (.val .nilFunc) := alloc_eq (by kernel_rfl) σ
theorem sto155 (σ : Sto) (v p : AV) : aStore prog σ 155 v p = aStoreN σ 1 v p := aStore_eq (by kernel_rfl) σ v p
theorem tO159 : tAgg prog 159 = some none := by kernel_rfl
theorem get159 (c : AV) (cs : List AV) : aGet prog 159 (c :: cs) = some c := by rw [aGet_one tO159]; rfl
theorem zero159 : aZero prog 159 = some (.val .nilFunc) := by kernel_rfl
theorem alloc159 (σ : Sto) : aAlloc prog σ 159 = aNewVar σ (.val .nilFunc) := alloc_eq (by kernel_rfl) σ
theorem sto159 (σ : Sto) (v p : AV) : aStore prog σ 159 v p = aStoreN σ 1 v p := aStore_eq (by kernel_rfl) σ v p
theorem tA160 : tAgg prog 160 = some (some 2) := by kernel_rfl
theorem get160 (a0 a1 : AV) (l : List AV) : aGet prog 160 (a0 :: a1 :: l) = some (.agg [a0, a1]) := by rw [aGet_many tA160, if_pos (by simp)]; rfl
theorem fA160_0 (p : AV) : aFieldAddr prog 160 0 p = aOff 0 p := aFieldAddr_eq (t := 9) (by kernel_rfl) p
theorem fd160_0 (cs : List AV) : aField prog 160 0 (.agg cs) = cs[0]? := aField_eq (t := 9) (r := none) (by kernel_rfl) (by kernel_rfl) cs
theorem fA160_1 (p : AV) : aFieldAddr prog 160 1 p = aOff 1 p := aFieldAddr_eq (t := 3) (by kernel_rfl) p
theorem fd160_1 (cs : List AV) : aField prog 160 1 (.agg cs) = cs[1]? := aField_eq (t := 3) (r := none) (by kernel_rfl) (by kernel_rfl) cs
theorem bld160 (parts : List (Nat × AV)) : aBuild prog 160 parts = (aFill (fun j => [(0, 1), (1, 1)][j]?) [.val (.string ⟨#[]⟩), .val (.int .i64 0)] parts).map .agg := aBuild_eq (by kernel_rfl) parts
theorem zero160 : aZero prog 160 = some (.agg [.val (.string ⟨#[]⟩), .val (.int .i64 0)]) := by kernel_rfl
theorem alloc160 (σ : Sto) : aAlloc prog σ 160 = aNewVar σ (.agg [.val (.string ⟨#[]⟩), .val (.int .i64 0)]) := alloc_eq (by kernel_rfl) σ
theorem sto160 (σ : Sto) (v p : AV) : aStore prog σ 160 v p = aStoreN σ 2 v p := aStore_eq (by kernel_rfl) σ v p
theorem tO162 : tAgg prog 162 = some none := by kernel_rfl
theorem get162 (c : AV) (cs : List AV) : aGet prog 162 (c :: cs) = some c := by rw [aGet_one tO162]; rfl
theorem zero162 : aZero prog 162 = some (.val .nilFunc) := by kernel_rfl
theorem alloc162 (σ : Sto) : aAlloc prog σ 162 = aNewVar σ (.val .nilFunc) := alloc_eq (by kernel_rfl) σ
theorem sto162 (σ : Sto) (v p : AV) : aStore prog σ 162 v p = aStoreN σ 1 v p := aStore_eq (by kernel_rfl) σ v p
theorem tO171 : tAgg prog 171 = some none := by kernel_rfl
theorem get171 (c : AV) (cs : List AV) : aGet prog 171 (c :: cs) = some c := by rw [aGet_one tO171]; rfl
theorem zero171 : aZero prog 171 = some (.val .nilFunc) := by kernel_rfl
theorem alloc171 (σ : Sto) : aAlloc prog σ 171 = aNewVar σ (.val .nilFunc) := alloc_eq (by kernel_rfl) σ
theorem sto171 (σ : Sto) (v p : AV) : aStore prog σ 171 v p = aStoreN σ 1 v p := aStore_eq (by kernel_rfl) σ v p
theorem tA175 : tAgg prog 175 = some (some 4) := by kernel_rfl
theorem get175 (a0 a1 a2 a3 : AV) (l : List AV) : aGet prog 175 (a0 :: a1 :: a2 :: a3 :: l) = some (.agg [a0, a1, a2, a3]) := by rw [aGet_many tA175, if_pos (by simp)]; rfl
theorem fA175_0 (p : AV) : aFieldAddr prog 175 0 p = aOff 0 p := aFieldAddr_eq (t := 3) (by kernel_rfl) p
theorem fd175_0 (cs : List AV) : aField prog 175 0 (.agg cs) = cs[0]? := aField_eq (t := 3) (r := none) (by kernel_rfl) (by kernel_rfl) cs
theorem fA175_1 (p : AV) : aFieldAddr prog 175 1 p = aOff 1 p := aFieldAddr_eq (t := 3) (by kernel_rfl) p
theorem fd175_1 (cs : List AV) : aField prog 175 1 (.agg cs) = cs[1]? := aField_eq (t := 3) (r := none) (by kernel_rfl) (by kernel_rfl) cs
theorem fA175_2 (p : AV) : aFieldAddr prog 175 2 p = aOff 2 p := aFieldAddr_eq (t := 2) (by kernel_rfl) p
theorem fd175_2 (cs : List AV) : aField prog 175 2 (.agg cs) = cs[2]? := aField_eq (t := 2) (r := none) (by kernel_rfl) (by kernel_rfl) cs
theorem fA175_3 (p : AV) : aFieldAddr prog 175 3 p = aOff 3 p := aFieldAddr_eq (t := 3) (by kernel_rfl) p
theorem fd175_3 (cs : List AV) : aField prog 175 3 (.agg cs) = cs[3]? := aField_eq (t := 3) (r := none) (by kernel_rfl) (by kernel_rfl) cs
theorem bld175 (parts : List (Nat × AV)) : aBuild prog 175 parts = (aFill (fun j => [(0, 1), (1, 1), (2, 1), (3, 1)][j]?) [.val (.int .i64 0), .val (.int .i64 0), .val (.int .i64 0), .val (.int .i64 0)] parts).map .agg := aBuild_eq (by kernel_rfl) parts
theorem zero175 : aZero prog 175 = some (.agg [.val (.int .i64 0), .val (.int .i64 0), .val (.int .i64 0), .val (.int .i64 0)]) := by kernel_rfl
theorem alloc175 (σ : Sto) : aAlloc prog σ 175 = aNewVar σ (.agg [.val (.int .i64 0), .val (.int .i64 0), .val (.int .i64 0), .val (.int .i64 0)]) := alloc_eq (by kernel_rfl) σ
theorem sto175 (σ : Sto) (v p : AV) : aStore prog σ 175 v p = aStoreN σ 4 v p := aStore_eq (by kernel_rfl) σ v p
theorem tO176 : tAgg prog 176 = some none := by kernel_rfl
theorem get176 (c : AV) (cs : List AV) : aGet prog 176 (c :: cs) = some c := by rw [aGet_one tO176]; rfl
theorem zero176 : aZero prog 176 = some (.nilsl) := by kernel_rfl
theorem alloc176 (σ : Sto) : aAlloc prog σ 176 = aNewVar σ (.nilsl) := alloc_eq (by kernel_rfl) σ
theorem sto176 (σ : Sto) (v p : AV) : aStore prog σ 176 v p = aStoreN σ 1 v p := aStore_eq (by kernel_rfl) σ v p
theorem len176 (σ : Sto) (x : AV) : aLen prog σ 176 x = aLenSl x := aLen_sl (by kernel_rfl) σ x
theorem idx176 (x i : AV) : aIndexAddr prog 176 x i = aAt 4 x i := aIndexAddr_eq (by kernel_rfl) x i
theorem app176 (σ : Sto) (u : TypeId) (nl : Bool) (es : List AV) (k : Nat) (x : AV) : aAppendO prog σ 176 u nl 4 es k x = (aSrcE prog u 4 x).bind fun ds => appAt σ nl 4 32 es k ds σ[k]? := aAppendO_eq (by kernel_rfl) σ nl es k x
theorem src176 (x : AV) : aSrcE prog 176 4 x = aSrcS 4 x := aSrcE_sl (by kernel_rfl) 4 x
theorem nil176 (σ : Sto) (u : TypeId) (y : AV) : aApp prog false σ 176 u .nilsl y = aAppendO prog (σ ++ [.cap 0 4]) 176 u true 4 [] σ.length y := aApp_nil (by kernel_rfl) (by decide) σ u y
theorem row176 {len : Nat} {parts : List (Nat × AV)} (hl : len * 4 ≤ 16777216) (hp : 0 < len) (hi : parts.map (·.1) = List.range len) (hv : ∀ p ∈ parts, p.2.cells.length = 4 ∧ p.2.cells.all AV.one = true) : aBuildRow prog 176 len parts = some (.sl 4 (parts.map (·.2))) := aBuildRow_eq (by kernel_rfl) hl hp hi hv
theorem row1_176 (σ : Sto) (v : AV) (h1 : v.cells.length = 4) (h2 : v.cells.all AV.one = true) : aRow prog false σ 176 1 [(0, v)] = some (.sl 4 [v], σ) := aRow_sl (by kernel_rfl) (by decide) (row176 (len := 1) (parts := [(0, v)]) (by decide) (by decide) rfl (by intro p hp; simp only [List.mem_singleton] at hp; subst hp; exact ⟨h1, h2⟩)) σ
theorem tM176 : tMk prog 176 = some ([.val (.int .i64 0), .val (.int .i64 0), .val (.int .i64 0), .val (.int .i64 0)], 4, 32) := by kernel_rfl
theorem mk176 (σ : Sto) (k k1 : IntKind) (n : Int) : aMakeSlice prog σ 176 (.val (.int k n)) (.val (.int k1 n)) = if 0 ≤ n ∧ fits n.toNat 32 = true then some (.osl σ.length 0 n.toNat 4, σ ++ [.cells (aZeros [.val (.int .i64 0), .val (.int .i64 0), .val (.int .i64 0), .val (.int .i64 0)] (n.toNat * 4))]) else none := aMakeSlice_eq tM176 σ k k1 n
theorem rowm176 (σ : Sto) (v : AV) (h0 : v.cells.length = 4) (h1 : v.cells.all AV.one = true) : aRow prog true σ 176 1 [(0, v)] = some (.osl σ.length 0 1 4, σ ++ [.cells v.cells]) := aRow_live tM176 (by decide) σ v h0 h1
theorem row0_176 (σ : Sto) : aRow prog false σ 176 0 [] = some (.slo false 4 [] σ.length, σ ++ [.cap 0 4]) := aRow_zero (by kernel_rfl) (by decide) σ
theorem tO178 : tAgg prog 178 = some none := by kernel_rfl
theorem get178 (c : AV) (cs : List AV) : aGet prog 178 (c :: cs) = some c := by rw [aGet_one tO178]; rfl
theorem zero178 : aZero prog 178 = some (.val .nilFunc) := by kernel_rfl
theorem alloc178 (σ : Sto) : aAlloc prog σ 178 = aNewVar σ (.val .nilFunc) := alloc_eq (by kernel_rfl) σ
theorem sto178 (σ : Sto) (v p : AV) : aStore prog σ 178 v p = aStoreN σ 1 v p := aStore_eq (by kernel_rfl) σ v p
theorem cvt3_5 (k : IntKind) (n : Int) (σ : Sto) : aConv prog σ 3 5 (.val (.int k n)) = some (.val (.int .u8 (IntKind.wrap .u8 n)), σ) := aConv_int (ks := .i64) (by kernel_rfl) (by kernel_rfl) k n σ
theorem cvt3_21 (k : IntKind) (n : Int) (σ : Sto) : aConv prog σ 3 21 (.val (.int k n)) = some (.val (.int .i32 (IntKind.wrap .i32 n)), σ) := aConv_int (ks := .i64) (by kernel_rfl) (by kernel_rfl) k n σ
theorem cvt5_3 (k : IntKind) (n : Int) (σ : Sto) : aConv prog σ 5 3 (.val (.int k n)) = some (.val (.int .i64 (IntKind.wrap .i64 n)), σ) := aConv_int (ks := .u8) (by kernel_rfl) (by kernel_rfl) k n σ
theorem cvt76_3 (k : IntKind) (n : Int) (σ : Sto) : aConv prog σ 76 3 (.val (.int k n)) = some (.val (.int .i64 (IntKind.wrap .i64 n)), σ) := aConv_int (ks := .u16) (by kernel_rfl) (by kernel_rfl) k n σ
theorem cvb9_23 (σ : Sto) (x : ByteArray) (hx : x.size ≤ 4611686018427387904) : aConv prog σ 9 23 (.val (.string x)) = some (rowAV 1 false (x.data.toList.map byteAV), σ) := by rw [row_false]; exact aConv_toB (by kernel_rfl) (by kernel_rfl) σ x hx
theorem en6 : Enters prog 6 := enters_of func6 (by kernel_rfl) rfl
theorem en12 : Enters prog 12 := enters_of func12 (by kernel_rfl) rfl
theorem en13 : Enters prog 13 := enters_of func13 (by kernel_rfl) rfl
theorem en14 : Enters prog 14 := enters_of func14 (by kernel_rfl) rfl
theorem en15 : Enters prog 15 := enters_of func15 (by kernel_rfl) rfl
theorem en16 : Enters prog 16 := enters_of func16 (by kernel_rfl) rfl
theorem en17 : Enters prog 17 := enters_of func17 (by kernel_rfl) rfl
theorem en20 : Enters prog 20 := enters_of func20 (by kernel_rfl) rfl
theorem en23 : Enters prog 23 := enters_of func23 (by kernel_rfl) rfl
theorem en32 : Enters prog 32 := enters_of func32 (by kernel_rfl) rfl
theorem en33 : Enters prog 33 := enters_of func33 (by kernel_rfl) rfl
theorem en34 : Enters prog 34 := enters_of func34 (by kernel_rfl) rfl
theorem en35 : Enters prog 35 := enters_of func35 (by kernel_rfl) rfl
theorem en36 : Enters prog 36 := enters_of func36 (by kernel_rfl) rfl
theorem en37 : Enters prog 37 := enters_of func37 (by kernel_rfl) rfl
theorem en43 : Enters prog 43 := enters_of func43 (by kernel_rfl) rfl
theorem en44 : Enters prog 44 := enters_of func44 (by kernel_rfl) rfl
theorem en45 : Enters prog 45 := enters_of func45 (by kernel_rfl) rfl
theorem en46 : Enters prog 46 := enters_of func46 (by kernel_rfl) rfl
theorem en50 : Enters prog 50 := enters_of func50 (by kernel_rfl) rfl
theorem en51 : Enters prog 51 := enters_of func51 (by kernel_rfl) rfl
theorem en53 : Enters prog 53 := enters_of func53 (by kernel_rfl) rfl
theorem en54 : Enters prog 54 := enters_of func54 (by kernel_rfl) rfl
theorem en60 : Enters prog 60 := enters_of func60 (by kernel_rfl) rfl
theorem en61 : Enters prog 61 := enters_of func61 (by kernel_rfl) rfl
theorem en62 : Enters prog 62 := enters_of func62 (by kernel_rfl) rfl
theorem en63 : Enters prog 63 := enters_of func63 (by kernel_rfl) rfl
theorem en64 : Enters prog 64 := enters_of func64 (by kernel_rfl) rfl
theorem en65 : Enters prog 65 := enters_of func65 (by kernel_rfl) rfl
theorem en66 : Enters prog 66 := enters_of func66 (by kernel_rfl) rfl
theorem en67 : Enters prog 67 := enters_of func67 (by kernel_rfl) rfl
theorem en74 : Enters prog 74 := enters_of func74 (by kernel_rfl) rfl
theorem en75 : Enters prog 75 := enters_of func75 (by kernel_rfl) rfl
theorem en76 : Enters prog 76 := enters_of func76 (by kernel_rfl) rfl
theorem en91 : Enters prog 91 := enters_of func91 (by kernel_rfl) rfl
theorem en92 : Enters prog 92 := enters_of func92 (by kernel_rfl) rfl
theorem en93 : Enters prog 93 := enters_of func93 (by kernel_rfl) rfl
theorem en94 : Enters prog 94 := enters_of func94 (by kernel_rfl) rfl
theorem en95 : Enters prog 95 := enters_of func95 (by kernel_rfl) rfl
theorem en96 : Enters prog 96 := enters_of func96 (by kernel_rfl) rfl
theorem en107 : Enters prog 107 := enters_of func107 (by kernel_rfl) rfl
theorem en108 : Enters prog 108 := enters_of func108 (by kernel_rfl) rfl
theorem mixed : prog.follows .mixedOrders = true := by kernel_rfl
attribute [go_sem] get2 zero2 alloc2 sto2 get3 zero3 alloc3 sto3 get4 zero4 alloc4 sto4 tyBool4 get5 zero5 alloc5 sto5 get9 zero9 alloc9 sto9 len9 tyStr9 get21 zero21 alloc21 sto21 get22 zero22 alloc22 sto22 get23 zero23 alloc23 sto23 len23 idx23 app23 src23 nil23 row1_23 mk23 rowm23 row0_23 get24 zero24 alloc24 sto24 len24 idx24 app24 src24 nil24 row1_24 mk24 rowm24 row0_24 get26 fA26_0 fd26_0 fA26_1 fd26_1 bld26 zero26 alloc26 sto26 get28 fA28_0 fd28_0 fA28_1 fd28_1 bld28 zero28 alloc28 sto28 get30 fA30_0 fd30_0 fA30_1 fd30_1 bld30 zero30 alloc30 sto30 get31 zero31 alloc31 sto31 len31 idx31 app31 src31 nil31 row1_31 mk31 rowm31 row0_31 get32 zero32 alloc32 sto32 len32 idx32 app32 src32 nil32 row1_32 mk32 rowm32 row0_32 get34 fA34_0 fd34_0 fA34_1 fd34_1 fA34_2 fd34_2 fA34_3 fd34_3 bld34 zero34 alloc34 sto34 get35 zero35 alloc35 sto35 len35 idx35 app35 src35 nil35 row1_35 mk35 rowm35 row0_35 get37 fA37_0 fd37_0 bld37 zero37 alloc37 sto37 get41 zero41 alloc41 sto41 len41 idx41 app41 src41 nil41 row1_41 mk41 rowm41 row0_41 get43 fA43_0 fd43_0 fA43_1 fd43_1 fA43_2 fd43_2 fA43_3 fd43_3 fA43_4 fd43_4 bld43 zero43 alloc43 sto43 get45 zero45 alloc45 sto45 len45 idx45 app45 src45 nil45 row1_45 mk45 rowm45 row0_45 get47 fA47_0 fd47_0 fA47_1 fd47_1 fA47_2 fd47_2 fA47_3 fd47_3 fA47_4 fd47_4 bld47 zero47 alloc47 sto47 get51 zero51 alloc51 sto51 get54 zero54 alloc54 sto54 get59 zero59 alloc59 sto59 len59 idx59 app59 src59 nil59 row1_59 mk59 rowm59 row0_59 get61 fA61_0 fd61_0 bld61 zero61 alloc61 sto61 get62 zero62 alloc62 sto62 len62 idx62 app62 src62 nil62 row1_62 mk62 rowm62 row0_62 get64 fA64_0 fd64_0 fA64_1 fd64_1 fA64_2 fd64_2 fA64_3 fd64_3 fA64_4 fd64_4 fA64_5 fd64_5 fA64_6 fd64_6 bld64 zero64 alloc64 sto64 get70 zero70 alloc70 sto70 len70 idx70 app70 src70 nil70 row1_70 mk70 rowm70 row0_70 get72 fA72_0 fd72_0 fA72_1 fd72_1 fA72_2 fd72_2 fA72_3 fd72_3 fA72_4 fd72_4 fA72_5 fd72_5 fA72_6 fd72_6 bld72 zero72 alloc72 sto72 get76 zero76 alloc76 sto76 get77 fA77_0 fd77_0 fA77_1 fd77_1 bld77 zero77 alloc77 sto77 get78 zero78 alloc78 sto78 len78 idx78 app78 src78 nil78 row1_78 mk78 rowm78 row0_78 get79 zero79 alloc79 sto79 len79 idx79 app79 src79 nil79 row1_79 mk79 rowm79 row0_79 get81 fA81_0 fd81_0 fA81_1 fd81_1 bld81 zero81 alloc81 sto81 get82 zero82 alloc82 sto82 len82 idx82 app82 src82 nil82 row1_82 mk82 rowm82 row0_82 get84 fA84_0 fd84_0 fA84_1 fd84_1 fA84_2 fd84_2 fA84_3 fd84_3 fA84_4 fd84_4 bld84 zero84 alloc84 sto84 get85 zero85 alloc85 sto85 len85 idx85 app85 src85 nil85 row1_85 mk85 rowm85 row0_85 get87 fA87_0 fd87_0 bld87 zero87 alloc87 sto87 get89 zero89 alloc89 sto89 len89 idx89 app89 src89 nil89 row1_89 mk89 rowm89 row0_89 get91 fA91_0 fd91_0 bld91 zero91 alloc91 sto91 get94 zero94 alloc94 sto94 len94 idx94 app94 src94 nil94 row1_94 mk94 rowm94 row0_94 get95 zero95 alloc95 sto95 len95 idx95 app95 src95 nil95 row1_95 mk95 rowm95 row0_95 get97 fA97_0 fd97_0 fA97_1 fd97_1 fA97_2 fd97_2 fA97_3 fd97_3 fA97_4 fd97_4 bld97 zero97 alloc97 sto97 get100 zero100 alloc100 sto100 get103 zero103 alloc103 sto103 len103 idx103 app103 src103 nil103 row1_103 mk103 rowm103 row0_103 get104 zero104 alloc104 sto104 len104 idx104 app104 src104 nil104 row1_104 mk104 rowm104 row0_104 get105 zero105 alloc105 sto105 len105 idx105 app105 src105 nil105 row1_105 mk105 rowm105 row0_105 get107 fA107_0 fd107_0 fA107_1 fd107_1 fA107_2 fd107_2 fA107_3 fd107_3 bld107 zero107 alloc107 sto107 get108 fA108_0 fd108_0 fA108_1 fd108_1 bld108 zero108 alloc108 sto108 get111 zero111 alloc111 sto111 get114 zero114 alloc114 sto114 get116 zero116 alloc116 sto116 get118 fA118_0 fd118_0 fA118_1 fd118_1 bld118 zero118 alloc118 sto118 get120 fA120_0 fd120_0 fA120_1 fd120_1 bld120 zero120 alloc120 sto120 get125 zero125 alloc125 sto125 get128 fA128_0 fd128_0 fA128_1 fd128_1 bld128 zero128 alloc128 sto128 get130 zero130 alloc130 sto130 get133 zero133 alloc133 sto133 get136 zero136 alloc136 sto136 len136 idx136 app136 src136 nil136 row1_136 mk136 rowm136 row0_136 get139 zero139 alloc139 sto139 get142 zero142 alloc142 sto142 get145 zero145 alloc145 sto145 get149 zero149 alloc149 sto149 get152 zero152 alloc152 sto152 get155 zero155 alloc155 sto155 get159 zero159 alloc159 sto159 get160 fA160_0 fd160_0 fA160_1 fd160_1 bld160 zero160 alloc160 sto160 get162 zero162 alloc162 sto162 get171 zero171 alloc171 sto171 get175 fA175_0 fd175_0 fA175_1 fd175_1 fA175_2 fd175_2 fA175_3 fd175_3 bld175 zero175 alloc175 sto175 get176 zero176 alloc176 sto176 len176 idx176 app176 src176 nil176 row1_176 mk176 rowm176 row0_176 get178 zero178 alloc178 sto178 cvt3_5 cvt3_21 cvt5_3 cvt76_3
end Go.Proofs.Tryd

