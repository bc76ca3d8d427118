import Derived.Test.YtnfimclkiccdhaaDoorPtEvF
import Derived.Test.YtnfimclkiccdhaaDoorProg
/-! What is known of types. -/
namespace Go.Proofs.Tryd
set_option linter.unusedSimpArgs false
set_option linter.unusedVariables false
open Go Go.Proofs.Ev
theorem tO2 : tAgg prog 2 = some none := by kernel_rfl
theorem get2 (c : AV) (cs : List AV) : aGet prog 2 (c :: cs) = some c := by rw [aGet_one tO2]; rfl
theorem zero2 : aZero prog 2 = some (.val (.int .i64 0)) := by kernel_rfl
theorem alloc2 (σ : Sto) : aAlloc prog σ 2 = aNewVar σ (.val (.int .i64 0)) := alloc_eq (by kernel_rfl) σ
theorem sto2 (σ : Sto) (v p : AV) : aStore prog σ 2 v p = aStoreN σ 1 v p := aStore_eq (by kernel_rfl) σ v p
theorem tO3 : tAgg prog 3 = some none := by kernel_rfl
theorem get3 (c : AV) (cs : List AV) : aGet prog 3 (c :: cs) = some c := by rw [aGet_one tO3]; rfl
theorem zero3 : aZero prog 3 = some (.val (.int .i64 0)) := by kernel_rfl
theorem alloc3 (σ : Sto) : aAlloc prog σ 3 = aNewVar σ (.val (.int .i64 0)) := alloc_eq (by kernel_rfl) σ
theorem sto3 (σ : Sto) (v p : AV) : aStore prog σ 3 v p = aStoreN σ 1 v p := aStore_eq (by kernel_rfl) σ v p
theorem tO4 : tAgg prog 4 = some none := by kernel_rfl
theorem get4 (c : AV) (cs : List AV) : aGet prog 4 (c :: cs) = some c := by rw [aGet_one tO4]; rfl
theorem zero4 : aZero prog 4 = some (.val (.bool false)) := by kernel_rfl
theorem alloc4 (σ : Sto) : aAlloc prog σ 4 = aNewVar σ (.val (.bool false)) := alloc_eq (by kernel_rfl) σ
theorem sto4 (σ : Sto) (v p : AV) : aStore prog σ 4 v p = aStoreN σ 1 v p := aStore_eq (by kernel_rfl) σ v p
theorem tyBool4 : tyBool prog 4 = true := by kernel_rfl
theorem tO5 : tAgg prog 5 = some none := by kernel_rfl
theorem get5 (c : AV) (cs : List AV) : aGet prog 5 (c :: cs) = some c := by rw [aGet_one tO5]; rfl
theorem zero5 : aZero prog 5 = some (.val (.int .u8 0)) := by kernel_rfl
theorem alloc5 (σ : Sto) : aAlloc prog σ 5 = aNewVar σ (.val (.int .u8 0)) := alloc_eq (by kernel_rfl) σ
theorem sto5 (σ : Sto) (v p : AV) : aStore prog σ 5 v p = aStoreN σ 1 v p := aStore_eq (by kernel_rfl) σ v p
theorem tO9 : tAgg prog 9 = some none := by kernel_rfl
theorem get9 (c : AV) (cs : List AV) : aGet prog 9 (c :: cs) = some c := by rw [aGet_one tO9]; rfl
theorem zero9 : aZero prog 9 = some (.val (.string ⟨#[]⟩)) := by kernel_rfl
theorem alloc9 (σ : Sto) : aAlloc prog σ 9 = aNewVar σ (.val (.string ⟨#[]⟩)) := alloc_eq (by kernel_rfl) σ
theorem sto9 (σ : Sto) (v p : AV) : aStore prog σ 9 v p = aStoreN σ 1 v p := aStore_eq (by kernel_rfl) σ v p
theorem len9 (σ : Sto) (x : AV) : aLen prog σ 9 x = aLenStr x := aLen_str (by kernel_rfl) σ x
theorem tyStr9 : tyStr prog 9 = true := by kernel_rfl
theorem tO22 : tAgg prog 22 = some none := by kernel_rfl
theorem get22 (c : AV) (cs : List AV) : aGet prog 22 (c :: cs) = some c := by rw [aGet_one tO22]; rfl
theorem zero22 : aZero prog 22 = some (.nilsl) := by kernel_rfl
theorem alloc22 (σ : Sto) : aAlloc prog σ 22 = aNewVar σ (.nilsl) := alloc_eq (by kernel_rfl) σ
theorem sto22 (σ : Sto) (v p : AV) : aStore prog σ 22 v p = aStoreN σ 1 v p := aStore_eq (by kernel_rfl) σ v p
theorem len22 (σ : Sto) (x : AV) : aLen prog σ 22 x = aLenSl x := aLen_sl (by kernel_rfl) σ x
theorem idx22 (x i : AV) : aIndexAddr prog 22 x i = aAt 5 x i := aIndexAddr_eq (by kernel_rfl) x i
theorem app22 (σ : Sto) (u : TypeId) (nl : Bool) (es : List AV) (k : Nat) (x : AV) : aAppendO prog σ 22 u nl 5 es k x = (aSrcE prog u 5 x).bind fun ds => appAt σ nl 5 112 es k ds σ[k]? := aAppendO_eq (by kernel_rfl) σ nl es k x
theorem src22 (x : AV) : aSrcE prog 22 5 x = aSrcS 5 x := aSrcE_sl (by kernel_rfl) 5 x
theorem nil22 (σ : Sto) (u : TypeId) (y : AV) : aApp prog false σ 22 u .nilsl y = aAppendO prog (σ ++ [.cap 0 5]) 22 u true 5 [] σ.length y := aApp_nil (by kernel_rfl) (by decide) σ u y
theorem row22 {len : Nat} {parts : List (Nat × AV)} (hl : len * 5 ≤ 16777216) (hp : 0 < len) (hi : parts.map (·.1) = List.range len) (hv : ∀ p ∈ parts, p.2.cells.length = 5 ∧ p.2.cells.all AV.one = true) : aBuildRow prog 22 len parts = some (.sl 5 (parts.map (·.2))) := aBuildRow_eq (by kernel_rfl) hl hp hi hv
theorem row1_22 (σ : Sto) (v : AV) (h1 : v.cells.length = 5) (h2 : v.cells.all AV.one = true) : aRow prog false σ 22 1 [(0, v)] = some (.sl 5 [v], σ) := aRow_sl (by kernel_rfl) (by decide) (row22 (len := 1) (parts := [(0, v)]) (by decide) (by decide) rfl (by intro p hp; simp only [List.mem_singleton] at hp; subst hp; exact ⟨h1, h2⟩)) σ
theorem tM22 : tMk prog 22 = some ([.val (.string ⟨#[]⟩), .nilsl, .nilsl, .nilsl, .nilsl], 5, 112) := by kernel_rfl
theorem mk22 (σ : Sto) (k k1 : IntKind) (n : Int) : aMakeSlice prog σ 22 (.val (.int k n)) (.val (.int k1 n)) = if 0 ≤ n ∧ fits n.toNat 112 = true then some (.osl σ.length 0 n.toNat 5, σ ++ [.cells (aZeros [.val (.string ⟨#[]⟩), .nilsl, .nilsl, .nilsl, .nilsl] (n.toNat * 5))]) else none := aMakeSlice_eq tM22 σ k k1 n
theorem rowm22 (σ : Sto) (v : AV) (h0 : v.cells.length = 5) (h1 : v.cells.all AV.one = true) : aRow prog true σ 22 1 [(0, v)] = some (.osl σ.length 0 1 5, σ ++ [.cells v.cells]) := aRow_live tM22 (by decide) σ v h0 h1
theorem row0_22 (σ : Sto) : aRow prog false σ 22 0 [] = some (.slo false 5 [] σ.length, σ ++ [.cap 0 5]) := aRow_zero (by kernel_rfl) (by decide) σ
theorem tA24 : tAgg prog 24 = some (some 1) := by kernel_rfl
theorem get24 (a0 : AV) (l : List AV) : aGet prog 24 (a0 :: l) = some (.agg [a0]) := by rw [aGet_many tA24, if_pos (by simp)]; rfl
theorem fA24_0 (p : AV) : aFieldAddr prog 24 0 p = aOff 0 p := aFieldAddr_eq (t := 22) (by kernel_rfl) p
theorem fd24_0 (cs : List AV) : aField prog 24 0 (.agg cs) = cs[0]? := aField_eq (t := 22) (r := none) (by kernel_rfl) (by kernel_rfl) cs
theorem bld24 (parts : List (Nat × AV)) : aBuild prog 24 parts = (aFill (fun j => [(0, 1)][j]?) [.nilsl] parts).map .agg := aBuild_eq (by kernel_rfl) parts
theorem zero24 : aZero prog 24 = some (.agg [.nilsl]) := by kernel_rfl
theorem alloc24 (σ : Sto) : aAlloc prog σ 24 = aNewVar σ (.agg [.nilsl]) := alloc_eq (by kernel_rfl) σ
theorem sto24 (σ : Sto) (v p : AV) : aStore prog σ 24 v p = aStoreN σ 1 v p := aStore_eq (by kernel_rfl) σ v p
theorem tO25 : tAgg prog 25 = some none := by kernel_rfl
theorem get25 (c : AV) (cs : List AV) : aGet prog 25 (c :: cs) = some c := by rw [aGet_one tO25]; rfl
theorem zero25 : aZero prog 25 = some (.nilsl) := by kernel_rfl
theorem alloc25 (σ : Sto) : aAlloc prog σ 25 = aNewVar σ (.nilsl) := alloc_eq (by kernel_rfl) σ
theorem sto25 (σ : Sto) (v p : AV) : aStore prog σ 25 v p = aStoreN σ 1 v p := aStore_eq (by kernel_rfl) σ v p
theorem len25 (σ : Sto) (x : AV) : aLen prog σ 25 x = aLenSl x := aLen_sl (by kernel_rfl) σ x
theorem idx25 (x i : AV) : aIndexAddr prog 25 x i = aAt 5 x i := aIndexAddr_eq (by kernel_rfl) x i
theorem app25 (σ : Sto) (u : TypeId) (nl : Bool) (es : List AV) (k : Nat) (x : AV) : aAppendO prog σ 25 u nl 5 es k x = (aSrcE prog u 5 x).bind fun ds => appAt σ nl 5 64 es k ds σ[k]? := aAppendO_eq (by kernel_rfl) σ nl es k x
theorem src25 (x : AV) : aSrcE prog 25 5 x = aSrcS 5 x := aSrcE_sl (by kernel_rfl) 5 x
theorem nil25 (σ : Sto) (u : TypeId) (y : AV) : aApp prog false σ 25 u .nilsl y = aAppendO prog (σ ++ [.cap 0 5]) 25 u true 5 [] σ.length y := aApp_nil (by kernel_rfl) (by decide) σ u y
theorem row25 {len : Nat} {parts : List (Nat × AV)} (hl : len * 5 ≤ 16777216) (hp : 0 < len) (hi : parts.map (·.1) = List.range len) (hv : ∀ p ∈ parts, p.2.cells.length = 5 ∧ p.2.cells.all AV.one = true) : aBuildRow prog 25 len parts = some (.sl 5 (parts.map (·.2))) := aBuildRow_eq (by kernel_rfl) hl hp hi hv
theorem row1_25 (σ : Sto) (v : AV) (h1 : v.cells.length = 5) (h2 : v.cells.all AV.one = true) : aRow prog false σ 25 1 [(0, v)] = some (.sl 5 [v], σ) := aRow_sl (by kernel_rfl) (by decide) (row25 (len := 1) (parts := [(0, v)]) (by decide) (by decide) rfl (by intro p hp; simp only [List.mem_singleton] at hp; subst hp; exact ⟨h1, h2⟩)) σ
theorem tM25 : tMk prog 25 = some ([.val (.int .i64 0), .val (.int .i64 0), .val (.int .i64 0), .val (.string ⟨#[]⟩), .nilsl], 5, 64) := by kernel_rfl
theorem mk25 (σ : Sto) (k k1 : IntKind) (n : Int) : aMakeSlice prog σ 25 (.val (.int k n)) (.val (.int k1 n)) = if 0 ≤ n ∧ fits n.toNat 64 = true then some (.osl σ.length 0 n.toNat 5, σ ++ [.cells (aZeros [.val (.int .i64 0), .val (.int .i64 0), .val (.int .i64 0), .val (.string ⟨#[]⟩), .nilsl] (n.toNat * 5))]) else none := aMakeSlice_eq tM25 σ k k1 n
theorem rowm25 (σ : Sto) (v : AV) (h0 : v.cells.length = 5) (h1 : v.cells.all AV.one = true) : aRow prog true σ 25 1 [(0, v)] = some (.osl σ.length 0 1 5, σ ++ [.cells v.cells]) := aRow_live tM25 (by decide) σ v h0 h1
theorem row0_25 (σ : Sto) : aRow prog false σ 25 0 [] = some (.slo false 5 [] σ.length, σ ++ [.cap 0 5]) := aRow_zero (by kernel_rfl) (by decide) σ
theorem tA27 : tAgg prog 27 = some (some 5) := by kernel_rfl
theorem get27 (a0 a1 a2 a3 a4 : AV) (l : List AV) : aGet prog 27 (a0 :: a1 :: a2 :: a3 :: a4 :: l) = some (.agg [a0, a1, a2, a3, a4]) := by rw [aGet_many tA27, if_pos (by simp)]; rfl
theorem fA27_0 (p : AV) : aFieldAddr prog 27 0 p = aOff 0 p := aFieldAddr_eq (t := 3) (by kernel_rfl) p
theorem fd27_0 (cs : List AV) : aField prog 27 0 (.agg cs) = cs[0]? := aField_eq (t := 3) (r := none) (by kernel_rfl) (by kernel_rfl) cs
theorem fA27_1 (p : AV) : aFieldAddr prog 27 1 p = aOff 1 p := aFieldAddr_eq (t := 3) (by kernel_rfl) p
theorem fd27_1 (cs : List AV) : aField prog 27 1 (.agg cs) = cs[1]? := aField_eq (t := 3) (r := none) (by kernel_rfl) (by kernel_rfl) cs
theorem fA27_2 (p : AV) : aFieldAddr prog 27 2 p = aOff 2 p := aFieldAddr_eq (t := 2) (by kernel_rfl) p
theorem fd27_2 (cs : List AV) : aField prog 27 2 (.agg cs) = cs[2]? := aField_eq (t := 2) (r := none) (by kernel_rfl) (by kernel_rfl) cs
theorem fA27_3 (p : AV) : aFieldAddr prog 27 3 p = aOff 3 p := aFieldAddr_eq (t := 9) (by kernel_rfl) p
theorem fd27_3 (cs : List AV) : aField prog 27 3 (.agg cs) = cs[3]? := aField_eq (t := 9) (r := none) (by kernel_rfl) (by kernel_rfl) cs
theorem fA27_4 (p : AV) : aFieldAddr prog 27 4 p = aOff 4 p := aFieldAddr_eq (t := 25) (by kernel_rfl) p
theorem fd27_4 (cs : List AV) : aField prog 27 4 (.agg cs) = cs[4]? := aField_eq (t := 25) (r := none) (by kernel_rfl) (by kernel_rfl) cs
theorem bld27 (parts : List (Nat × AV)) : aBuild prog 27 parts = (aFill (fun j => [(0, 1), (1, 1), (2, 1), (3, 1), (4, 1)][j]?) [.val (.int .i64 0), .val (.int .i64 0), .val (.int .i64 0), .val (.string ⟨#[]⟩), .nilsl] parts).map .agg := aBuild_eq (by kernel_rfl) parts
theorem zero27 : aZero prog 27 = some (.agg [.val (.int .i64 0), .val (.int .i64 0), .val (.int .i64 0), .val (.string ⟨#[]⟩), .nilsl]) := by kernel_rfl
theorem alloc27 (σ : Sto) : aAlloc prog σ 27 = aNewVar σ (.agg [.val (.int .i64 0), .val (.int .i64 0), .val (.int .i64 0), .val (.string ⟨#[]⟩), .nilsl]) := alloc_eq (by kernel_rfl) σ
theorem sto27 (σ : Sto) (v p : AV) : aStore prog σ 27 v p = aStoreN σ 5 v p := aStore_eq (by kernel_rfl) σ v p
theorem tO30 : tAgg prog 30 = some none := by kernel_rfl
theorem get30 (c : AV) (cs : List AV) : aGet prog 30 (c :: cs) = some c := by rw [aGet_one tO30]; rfl
theorem zero30 : aZero prog 30 = some (.val (.int .i64 0)) := by kernel_rfl
theorem alloc30 (σ : Sto) : aAlloc prog σ 30 = aNewVar σ (.val (.int .i64 0)) := alloc_eq (by kernel_rfl) σ
theorem sto30 (σ : Sto) (v p : AV) : aStore prog σ 30 v p = aStoreN σ 1 v p := aStore_eq (by kernel_rfl) σ v p
theorem tO33 : tAgg prog 33 = some none := by kernel_rfl
theorem get33 (c : AV) (cs : List AV) : aGet prog 33 (c :: cs) = some c := by rw [aGet_one tO33]; rfl
theorem zero33 : aZero prog 33 = some (.nilsl) := by kernel_rfl
theorem alloc33 (σ : Sto) : aAlloc prog σ 33 = aNewVar σ (.nilsl) := alloc_eq (by kernel_rfl) σ
theorem sto33 (σ : Sto) (v p : AV) : aStore prog σ 33 v p = aStoreN σ 1 v p := aStore_eq (by kernel_rfl) σ v p
theorem len33 (σ : Sto) (x : AV) : aLen prog σ 33 x = aLenSl x := aLen_sl (by kernel_rfl) σ x
theorem idx33 (x i : AV) : aIndexAddr prog 33 x i = aAt 5 x i := aIndexAddr_eq (by kernel_rfl) x i
theorem app33 (σ : Sto) (u : TypeId) (nl : Bool) (es : List AV) (k : Nat) (x : AV) : aAppendO prog σ 33 u nl 5 es k x = (aSrcE prog u 5 x).bind fun ds => appAt σ nl 5 112 es k ds σ[k]? := aAppendO_eq (by kernel_rfl) σ nl es k x
theorem src33 (x : AV) : aSrcE prog 33 5 x = aSrcS 5 x := aSrcE_sl (by kernel_rfl) 5 x
theorem nil33 (σ : Sto) (u : TypeId) (y : AV) : aApp prog false σ 33 u .nilsl y = aAppendO prog (σ ++ [.cap 0 5]) 33 u true 5 [] σ.length y := aApp_nil (by kernel_rfl) (by decide) σ u y
theorem row33 {len : Nat} {parts : List (Nat × AV)} (hl : len * 5 ≤ 16777216) (hp : 0 < len) (hi : parts.map (·.1) = List.range len) (hv : ∀ p ∈ parts, p.2.cells.length = 5 ∧ p.2.cells.all AV.one = true) : aBuildRow prog 33 len parts = some (.sl 5 (parts.map (·.2))) := aBuildRow_eq (by kernel_rfl) hl hp hi hv
theorem row1_33 (σ : Sto) (v : AV) (h1 : v.cells.length = 5) (h2 : v.cells.all AV.one = true) : aRow prog false σ 33 1 [(0, v)] = some (.sl 5 [v], σ) := aRow_sl (by kernel_rfl) (by decide) (row33 (len := 1) (parts := [(0, v)]) (by decide) (by decide) rfl (by intro p hp; simp only [List.mem_singleton] at hp; subst hp; exact ⟨h1, h2⟩)) σ
theorem tM33 : tMk prog 33 = some ([.val (.string ⟨#[]⟩), .nilsl, .nilsl, .nilsl, .nilsl], 5, 112) := by kernel_rfl
theorem mk33 (σ : Sto) (k k1 : IntKind) (n : Int) : aMakeSlice prog σ 33 (.val (.int k n)) (.val (.int k1 n)) = if 0 ≤ n ∧ fits n.toNat 112 = true then some (.osl σ.length 0 n.toNat 5, σ ++ [.cells (aZeros [.val (.string ⟨#[]⟩), .nilsl, .nilsl, .nilsl, .nilsl] (n.toNat * 5))]) else none := aMakeSlice_eq tM33 σ k k1 n
theorem rowm33 (σ : Sto) (v : AV) (h0 : v.cells.length = 5) (h1 : v.cells.all AV.one = true) : aRow prog true σ 33 1 [(0, v)] = some (.osl σ.length 0 1 5, σ ++ [.cells v.cells]) := aRow_live tM33 (by decide) σ v h0 h1
theorem row0_33 (σ : Sto) : aRow prog false σ 33 0 [] = some (.slo false 5 [] σ.length, σ ++ [.cap 0 5]) := aRow_zero (by kernel_rfl) (by decide) σ
theorem tA35 : tAgg prog 35 = some (some 1) := by kernel_rfl
theorem get35 (a0 : AV) (l : List AV) : aGet prog 35 (a0 :: l) = some (.agg [a0]) := by rw [aGet_many tA35, if_pos (by simp)]; rfl
theorem fA35_0 (p : AV) : aFieldAddr prog 35 0 p = aOff 0 p := aFieldAddr_eq (t := 33) (by kernel_rfl) p
theorem fd35_0 (cs : List AV) : aField prog 35 0 (.agg cs) = cs[0]? := aField_eq (t := 33) (r := none) (by kernel_rfl) (by kernel_rfl) cs
theorem bld35 (parts : List (Nat × AV)) : aBuild prog 35 parts = (aFill (fun j => [(0, 1)][j]?) [.nilsl] parts).map .agg := aBuild_eq (by kernel_rfl) parts
theorem zero35 : aZero prog 35 = some (.agg [.nilsl]) := by kernel_rfl
theorem alloc35 (σ : Sto) : aAlloc prog σ 35 = aNewVar σ (.agg [.nilsl]) := alloc_eq (by kernel_rfl) σ
theorem sto35 (σ : Sto) (v p : AV) : aStore prog σ 35 v p = aStoreN σ 1 v p := aStore_eq (by kernel_rfl) σ v p
theorem tO41 : tAgg prog 41 = some none := by kernel_rfl
theorem get41 (c : AV) (cs : List AV) : aGet prog 41 (c :: cs) = some c := by rw [aGet_one tO41]; rfl
theorem zero41 : aZero prog 41 = some (.nilsl) := by kernel_rfl
theorem alloc41 (σ : Sto) : aAlloc prog σ 41 = aNewVar σ (.nilsl) := alloc_eq (by kernel_rfl) σ
theorem sto41 (σ : Sto) (v p : AV) : aStore prog σ 41 v p = aStoreN σ 1 v p := aStore_eq (by kernel_rfl) σ v p
theorem len41 (σ : Sto) (x : AV) : aLen prog σ 41 x = aLenSl x := aLen_sl (by kernel_rfl) σ x
theorem idx41 (x i : AV) : aIndexAddr prog 41 x i = aAt 5 x i := aIndexAddr_eq (by kernel_rfl) x i
theorem app41 (σ : Sto) (u : TypeId) (nl : Bool) (es : List AV) (k : Nat) (x : AV) : aAppendO prog σ 41 u nl 5 es k x = (aSrcE prog u 5 x).bind fun ds => appAt σ nl 5 64 es k ds σ[k]? := aAppendO_eq (by kernel_rfl) σ nl es k x
theorem src41 (x : AV) : aSrcE prog 41 5 x = aSrcS 5 x := aSrcE_sl (by kernel_rfl) 5 x
theorem nil41 (σ : Sto) (u : TypeId) (y : AV) : aApp prog false σ 41 u .nilsl y = aAppendO prog (σ ++ [.cap 0 5]) 41 u true 5 [] σ.length y := aApp_nil (by kernel_rfl) (by decide) σ u y
theorem row41 {len : Nat} {parts : List (Nat × AV)} (hl : len * 5 ≤ 16777216) (hp : 0 < len) (hi : parts.map (·.1) = List.range len) (hv : ∀ p ∈ parts, p.2.cells.length = 5 ∧ p.2.cells.all AV.one = true) : aBuildRow prog 41 len parts = some (.sl 5 (parts.map (·.2))) := aBuildRow_eq (by kernel_rfl) hl hp hi hv
theorem row1_41 (σ : Sto) (v : AV) (h1 : v.cells.length = 5) (h2 : v.cells.all AV.one = true) : aRow prog false σ 41 1 [(0, v)] = some (.sl 5 [v], σ) := aRow_sl (by kernel_rfl) (by decide) (row41 (len := 1) (parts := [(0, v)]) (by decide) (by decide) rfl (by intro p hp; simp only [List.mem_singleton] at hp; subst hp; exact ⟨h1, h2⟩)) σ
theorem tM41 : tMk prog 41 = some ([.val (.int .i64 0), .val (.int .i64 0), .val (.int .i64 0), .val (.string ⟨#[]⟩), .nilsl], 5, 64) := by kernel_rfl
theorem mk41 (σ : Sto) (k k1 : IntKind) (n : Int) : aMakeSlice prog σ 41 (.val (.int k n)) (.val (.int k1 n)) = if 0 ≤ n ∧ fits n.toNat 64 = true then some (.osl σ.length 0 n.toNat 5, σ ++ [.cells (aZeros [.val (.int .i64 0), .val (.int .i64 0), .val (.int .i64 0), .val (.string ⟨#[]⟩), .nilsl] (n.toNat * 5))]) else none := aMakeSlice_eq tM41 σ k k1 n
theorem rowm41 (σ : Sto) (v : AV) (h0 : v.cells.length = 5) (h1 : v.cells.all AV.one = true) : aRow prog true σ 41 1 [(0, v)] = some (.osl σ.length 0 1 5, σ ++ [.cells v.cells]) := aRow_live tM41 (by decide) σ v h0 h1
theorem row0_41 (σ : Sto) : aRow prog false σ 41 0 [] = some (.slo false 5 [] σ.length, σ ++ [.cap 0 5]) := aRow_zero (by kernel_rfl) (by decide) σ
theorem tA43 : tAgg prog 43 = some (some 5) := by kernel_rfl
theorem get43 (a0 a1 a2 a3 a4 : AV) (l : List AV) : aGet prog 43 (a0 :: a1 :: a2 :: a3 :: a4 :: l) = some (.agg [a0, a1, a2, a3, a4]) := by rw [aGet_many tA43, if_pos (by simp)]; rfl
theorem fA43_0 (p : AV) : aFieldAddr prog 43 0 p = aOff 0 p := aFieldAddr_eq (t := 3) (by kernel_rfl) p
theorem fd43_0 (cs : List AV) : aField prog 43 0 (.agg cs) = cs[0]? := aField_eq (t := 3) (r := none) (by kernel_rfl) (by kernel_rfl) cs
theorem fA43_1 (p : AV) : aFieldAddr prog 43 1 p = aOff 1 p := aFieldAddr_eq (t := 3) (by kernel_rfl) p
theorem fd43_1 (cs : List AV) : aField prog 43 1 (.agg cs) = cs[1]? := aField_eq (t := 3) (r := none) (by kernel_rfl) (by kernel_rfl) cs
theorem fA43_2 (p : AV) : aFieldAddr prog 43 2 p = aOff 2 p := aFieldAddr_eq (t := 2) (by kernel_rfl) p
theorem fd43_2 (cs : List AV) : aField prog 43 2 (.agg cs) = cs[2]? := aField_eq (t := 2) (r := none) (by kernel_rfl) (by kernel_rfl) cs
theorem fA43_3 (p : AV) : aFieldAddr prog 43 3 p = aOff 3 p := aFieldAddr_eq (t := 9) (by kernel_rfl) p
theorem fd43_3 (cs : List AV) : aField prog 43 3 (.agg cs) = cs[3]? := aField_eq (t := 9) (r := none) (by kernel_rfl) (by kernel_rfl) cs
theorem fA43_4 (p : AV) : aFieldAddr prog 43 4 p = aOff 4 p := aFieldAddr_eq (t := 41) (by kernel_rfl) p
theorem fd43_4 (cs : List AV) : aField prog 43 4 (.agg cs) = cs[4]? := aField_eq (t := 41) (r := none) (by kernel_rfl) (by kernel_rfl) cs
theorem bld43 (parts : List (Nat × AV)) : aBuild prog 43 parts = (aFill (fun j => [(0, 1), (1, 1), (2, 1), (3, 1), (4, 1)][j]?) [.val (.int .i64 0), .val (.int .i64 0), .val (.int .i64 0), .val (.string ⟨#[]⟩), .nilsl] parts).map .agg := aBuild_eq (by kernel_rfl) parts
theorem zero43 : aZero prog 43 = some (.agg [.val (.int .i64 0), .val (.int .i64 0), .val (.int .i64 0), .val (.string ⟨#[]⟩), .nilsl]) := by kernel_rfl
theorem alloc43 (σ : Sto) : aAlloc prog σ 43 = aNewVar σ (.agg [.val (.int .i64 0), .val (.int .i64 0), .val (.int .i64 0), .val (.string ⟨#[]⟩), .nilsl]) := alloc_eq (by kernel_rfl) σ
theorem sto43 (σ : Sto) (v p : AV) : aStore prog σ 43 v p = aStoreN σ 5 v p := aStore_eq (by kernel_rfl) σ v p
theorem tO47 : tAgg prog 47 = some none := by kernel_rfl
theorem get47 (c : AV) (cs : List AV) : aGet prog 47 (c :: cs) = some c := by rw [aGet_one tO47]; rfl
theorem zero47 : aZero prog 47 = some (.nilsl) := by kernel_rfl
theorem alloc47 (σ : Sto) : aAlloc prog σ 47 = aNewVar σ (.nilsl) := alloc_eq (by kernel_rfl) σ
theorem sto47 (σ : Sto) (v p : AV) : aStore prog σ 47 v p = aStoreN σ 1 v p := aStore_eq (by kernel_rfl) σ v p
theorem len47 (σ : Sto) (x : AV) : aLen prog σ 47 x = aLenSl x := aLen_sl (by kernel_rfl) σ x
theorem idx47 (x i : AV) : aIndexAddr prog 47 x i = aAt 2 x i := aIndexAddr_eq (by kernel_rfl) x i
theorem app47 (σ : Sto) (u : TypeId) (nl : Bool) (es : List AV) (k : Nat) (x : AV) : aAppendO prog σ 47 u nl 2 es k x = (aSrcE prog u 2 x).bind fun ds => appAt σ nl 2 24 es k ds σ[k]? := aAppendO_eq (by kernel_rfl) σ nl es k x
theorem src47 (x : AV) : aSrcE prog 47 2 x = aSrcS 2 x := aSrcE_sl (by kernel_rfl) 2 x
theorem nil47 (σ : Sto) (u : TypeId) (y : AV) : aApp prog false σ 47 u .nilsl y = aAppendO prog (σ ++ [.cap 0 2]) 47 u true 2 [] σ.length y := aApp_nil (by kernel_rfl) (by decide) σ u y
theorem row47 {len : Nat} {parts : List (Nat × AV)} (hl : len * 2 ≤ 16777216) (hp : 0 < len) (hi : parts.map (·.1) = List.range len) (hv : ∀ p ∈ parts, p.2.cells.length = 2 ∧ p.2.cells.all AV.one = true) : aBuildRow prog 47 len parts = some (.sl 2 (parts.map (·.2))) := aBuildRow_eq (by kernel_rfl) hl hp hi hv
theorem row1_47 (σ : Sto) (v : AV) (h1 : v.cells.length = 2) (h2 : v.cells.all AV.one = true) : aRow prog false σ 47 1 [(0, v)] = some (.sl 2 [v], σ) := aRow_sl (by kernel_rfl) (by decide) (row47 (len := 1) (parts := [(0, v)]) (by decide) (by decide) rfl (by intro p hp; simp only [List.mem_singleton] at hp; subst hp; exact ⟨h1, h2⟩)) σ
theorem tM47 : tMk prog 47 = some ([.val (.string ⟨#[]⟩), .val (.int .i64 0)], 2, 24) := by kernel_rfl
theorem mk47 (σ : Sto) (k k1 : IntKind) (n : Int) : aMakeSlice prog σ 47 (.val (.int k n)) (.val (.int k1 n)) = if 0 ≤ n ∧ fits n.toNat 24 = true then some (.osl σ.length 0 n.toNat 2, σ ++ [.cells (aZeros [.val (.string ⟨#[]⟩), .val (.int .i64 0)] (n.toNat * 2))]) else none := aMakeSlice_eq tM47 σ k k1 n
theorem rowm47 (σ : Sto) (v : AV) (h0 : v.cells.length = 2) (h1 : v.cells.all AV.one = true) : aRow prog true σ 47 1 [(0, v)] = some (.osl σ.length 0 1 2, σ ++ [.cells v.cells]) := aRow_live tM47 (by decide) σ v h0 h1
theorem row0_47 (σ : Sto) : aRow prog false σ 47 0 [] = some (.slo false 2 [] σ.length, σ ++ [.cap 0 2]) := aRow_zero (by kernel_rfl) (by decide) σ
theorem tO48 : tAgg prog 48 = some none := by kernel_rfl
theorem get48 (c : AV) (cs : List AV) : aGet prog 48 (c :: cs) = some c := by rw [aGet_one tO48]; rfl
theorem zero48 : aZero prog 48 = some (.nilsl) := by kernel_rfl
theorem alloc48 (σ : Sto) : aAlloc prog σ 48 = aNewVar σ (.nilsl) := alloc_eq (by kernel_rfl) σ
theorem sto48 (σ : Sto) (v p : AV) : aStore prog σ 48 v p = aStoreN σ 1 v p := aStore_eq (by kernel_rfl) σ v p
theorem len48 (σ : Sto) (x : AV) : aLen prog σ 48 x = aLenSl x := aLen_sl (by kernel_rfl) σ x
theorem idx48 (x i : AV) : aIndexAddr prog 48 x i = aAt 6 x i := aIndexAddr_eq (by kernel_rfl) x i
theorem app48 (σ : Sto) (u : TypeId) (nl : Bool) (es : List AV) (k : Nat) (x : AV) : aAppendO prog σ 48 u nl 6 es k x = (aSrcE prog u 6 x).bind fun ds => appAt σ nl 6 88 es k ds σ[k]? := aAppendO_eq (by kernel_rfl) σ nl es k x
theorem src48 (x : AV) : aSrcE prog 48 6 x = aSrcS 6 x := aSrcE_sl (by kernel_rfl) 6 x
theorem nil48 (σ : Sto) (u : TypeId) (y : AV) : aApp prog false σ 48 u .nilsl y = aAppendO prog (σ ++ [.cap 0 6]) 48 u true 6 [] σ.length y := aApp_nil (by kernel_rfl) (by decide) σ u y
theorem row48 {len : Nat} {parts : List (Nat × AV)} (hl : len * 6 ≤ 16777216) (hp : 0 < len) (hi : parts.map (·.1) = List.range len) (hv : ∀ p ∈ parts, p.2.cells.length = 6 ∧ p.2.cells.all AV.one = true) : aBuildRow prog 48 len parts = some (.sl 6 (parts.map (·.2))) := aBuildRow_eq (by kernel_rfl) hl hp hi hv
theorem row1_48 (σ : Sto) (v : AV) (h1 : v.cells.length = 6) (h2 : v.cells.all AV.one = true) : aRow prog false σ 48 1 [(0, v)] = some (.sl 6 [v], σ) := aRow_sl (by kernel_rfl) (by decide) (row48 (len := 1) (parts := [(0, v)]) (by decide) (by decide) rfl (by intro p hp; simp only [List.mem_singleton] at hp; subst hp; exact ⟨h1, h2⟩)) σ
theorem tM48 : tMk prog 48 = some ([.nilsl, .val (.int .i64 0), .val (.int .i64 0), .val (.int .i64 0), .val (.string ⟨#[]⟩), .nilsl], 6, 88) := by kernel_rfl
theorem mk48 (σ : Sto) (k k1 : IntKind) (n : Int) : aMakeSlice prog σ 48 (.val (.int k n)) (.val (.int k1 n)) = if 0 ≤ n ∧ fits n.toNat 88 = true then some (.osl σ.length 0 n.toNat 6, σ ++ [.cells (aZeros [.nilsl, .val (.int .i64 0), .val (.int .i64 0), .val (.int .i64 0), .val (.string ⟨#[]⟩), .nilsl] (n.toNat * 6))]) else none := aMakeSlice_eq tM48 σ k k1 n
theorem rowm48 (σ : Sto) (v : AV) (h0 : v.cells.length = 6) (h1 : v.cells.all AV.one = true) : aRow prog true σ 48 1 [(0, v)] = some (.osl σ.length 0 1 6, σ ++ [.cells v.cells]) := aRow_live tM48 (by decide) σ v h0 h1
theorem row0_48 (σ : Sto) : aRow prog false σ 48 0 [] = some (.slo false 6 [] σ.length, σ ++ [.cap 0 6]) := aRow_zero (by kernel_rfl) (by decide) σ
theorem tA50 : tAgg prog 50 = some (some 5) := by kernel_rfl
theorem get50 (a0 a1 a2 a3 a4 : AV) (l : List AV) : aGet prog 50 (a0 :: a1 :: a2 :: a3 :: a4 :: l) = some (.agg [a0, a1, a2, a3, a4]) := by rw [aGet_many tA50, if_pos (by simp)]; rfl
theorem fA50_0 (p : AV) : aFieldAddr prog 50 0 p = aOff 0 p := aFieldAddr_eq (t := 9) (by kernel_rfl) p
theorem fd50_0 (cs : List AV) : aField prog 50 0 (.agg cs) = cs[0]? := aField_eq (t := 9) (r := none) (by kernel_rfl) (by kernel_rfl) cs
theorem fA50_1 (p : AV) : aFieldAddr prog 50 1 p = aOff 1 p := aFieldAddr_eq (t := 47) (by kernel_rfl) p
theorem fd50_1 (cs : List AV) : aField prog 50 1 (.agg cs) = cs[1]? := aField_eq (t := 47) (r := none) (by kernel_rfl) (by kernel_rfl) cs
theorem fA50_2 (p : AV) : aFieldAddr prog 50 2 p = aOff 2 p := aFieldAddr_eq (t := 47) (by kernel_rfl) p
theorem fd50_2 (cs : List AV) : aField prog 50 2 (.agg cs) = cs[2]? := aField_eq (t := 47) (r := none) (by kernel_rfl) (by kernel_rfl) cs
theorem fA50_3 (p : AV) : aFieldAddr prog 50 3 p = aOff 3 p := aFieldAddr_eq (t := 47) (by kernel_rfl) p
theorem fd50_3 (cs : List AV) : aField prog 50 3 (.agg cs) = cs[3]? := aField_eq (t := 47) (r := none) (by kernel_rfl) (by kernel_rfl) cs
theorem fA50_4 (p : AV) : aFieldAddr prog 50 4 p = aOff 4 p := aFieldAddr_eq (t := 48) (by kernel_rfl) p
theorem fd50_4 (cs : List AV) : aField prog 50 4 (.agg cs) = cs[4]? := aField_eq (t := 48) (r := none) (by kernel_rfl) (by kernel_rfl) cs
theorem bld50 (parts : List (Nat × AV)) : aBuild prog 50 parts = (aFill (fun j => [(0, 1), (1, 1), (2, 1), (3, 1), (4, 1)][j]?) [.val (.string ⟨#[]⟩), .nilsl, .nilsl, .nilsl, .nilsl] parts).map .agg := aBuild_eq (by kernel_rfl) parts
theorem zero50 : aZero prog 50 = some (.agg [.val (.string ⟨#[]⟩), .nilsl, .nilsl, .nilsl, .nilsl]) := by kernel_rfl
theorem alloc50 (σ : Sto) : aAlloc prog σ 50 = aNewVar σ (.agg [.val (.string ⟨#[]⟩), .nilsl, .nilsl, .nilsl, .nilsl]) := alloc_eq (by kernel_rfl) σ
theorem sto50 (σ : Sto) (v p : AV) : aStore prog σ 50 v p = aStoreN σ 5 v p := aStore_eq (by kernel_rfl) σ v p
theorem tO51 : tAgg prog 51 = some none := by kernel_rfl
theorem get51 (c : AV) (cs : List AV) : aGet prog 51 (c :: cs) = some c := by rw [aGet_one tO51]; rfl
theorem zero51 : aZero prog 51 = some (.nilsl) := by kernel_rfl
theorem alloc51 (σ : Sto) : aAlloc prog σ 51 = aNewVar σ (.nilsl) := alloc_eq (by kernel_rfl) σ
theorem sto51 (σ : Sto) (v p : AV) : aStore prog σ 51 v p = aStoreN σ 1 v p := aStore_eq (by kernel_rfl) σ v p
theorem len51 (σ : Sto) (x : AV) : aLen prog σ 51 x = aLenSl x := aLen_sl (by kernel_rfl) σ x
theorem idx51 (x i : AV) : aIndexAddr prog 51 x i = aAt 1 x i := aIndexAddr_eq (by kernel_rfl) x i
theorem app51 (σ : Sto) (u : TypeId) (nl : Bool) (es : List AV) (k : Nat) (x : AV) : aAppendO prog σ 51 u nl 1 es k x = (aSrcE prog u 1 x).bind fun ds => appAt σ nl 1 16 es k ds σ[k]? := aAppendO_eq (by kernel_rfl) σ nl es k x
theorem src51 (x : AV) : aSrcE prog 51 1 x = aSrcS 1 x := aSrcE_sl (by kernel_rfl) 1 x
theorem nil51 (σ : Sto) (u : TypeId) (y : AV) : aApp prog false σ 51 u .nilsl y = aAppendO prog (σ ++ [.cap 0 1]) 51 u true 1 [] σ.length y := aApp_nil (by kernel_rfl) (by decide) σ u y
theorem row51 {len : Nat} {parts : List (Nat × AV)} (hl : len * 1 ≤ 16777216) (hp : 0 < len) (hi : parts.map (·.1) = List.range len) (hv : ∀ p ∈ parts, p.2.cells.length = 1 ∧ p.2.cells.all AV.one = true) : aBuildRow prog 51 len parts = some (.sl 1 (parts.map (·.2))) := aBuildRow_eq (by kernel_rfl) hl hp hi hv
theorem row1_51 (σ : Sto) (v : AV) (h1 : v.cells.length = 1) (h2 : v.cells.all AV.one = true) : aRow prog false σ 51 1 [(0, v)] = some (.sl 1 [v], σ) := aRow_sl (by kernel_rfl) (by decide) (row51 (len := 1) (parts := [(0, v)]) (by decide) (by decide) rfl (by intro p hp; simp only [List.mem_singleton] at hp; subst hp; exact ⟨h1, h2⟩)) σ
theorem tM51 : tMk prog 51 = some ([.val (.string ⟨#[]⟩)], 1, 16) := by kernel_rfl
theorem mk51 (σ : Sto) (k k1 : IntKind) (n : Int) : aMakeSlice prog σ 51 (.val (.int k n)) (.val (.int k1 n)) = if 0 ≤ n ∧ fits n.toNat 16 = true then some (.osl σ.length 0 n.toNat 1, σ ++ [.cells (aZeros [.val (.string ⟨#[]⟩)] (n.toNat * 1))]) else none := aMakeSlice_eq tM51 σ k k1 n
theorem rowm51 (σ : Sto) (v : AV) (h0 : v.cells.length = 1) (h1 : v.cells.all AV.one = true) : aRow prog true σ 51 1 [(0, v)] = some (.osl σ.length 0 1 1, σ ++ [.cells v.cells]) := aRow_live tM51 (by decide) σ v h0 h1
theorem row0_51 (σ : Sto) : aRow prog false σ 51 0 [] = some (.slo false 1 [] σ.length, σ ++ [.cap 0 1]) := aRow_zero (by kernel_rfl) (by decide) σ
theorem tA53 : tAgg prog 53 = some (some 6) := by kernel_rfl
theorem get53 (a0 a1 a2 a3 a4 a5 : AV) (l : List AV) : aGet prog 53 (a0 :: a1 :: a2 :: a3 :: a4 :: a5 :: l) = some (.agg [a0, a1, a2, a3, a4, a5]) := by rw [aGet_many tA53, if_pos (by simp)]; rfl
theorem fA53_0 (p : AV) : aFieldAddr prog 53 0 p = aOff 0 p := aFieldAddr_eq (t := 51) (by kernel_rfl) p
theorem fd53_0 (cs : List AV) : aField prog 53 0 (.agg cs) = cs[0]? := aField_eq (t := 51) (r := none) (by kernel_rfl) (by kernel_rfl) cs
theorem fA53_1 (p : AV) : aFieldAddr prog 53 1 p = aOff 1 p := aFieldAddr_eq (t := 27) (by kernel_rfl) p
theorem fd53_1 (cs : List AV) : aField prog 53 1 (.agg cs) = some (.agg ((cs.drop 1).take 5)) := aField_eq (t := 27) (r := some 5) (by kernel_rfl) (by kernel_rfl) cs
theorem bld53 (parts : List (Nat × AV)) : aBuild prog 53 parts = (aFill (fun j => [(0, 1), (1, 5)][j]?) [.nilsl, .val (.int .i64 0), .val (.int .i64 0), .val (.int .i64 0), .val (.string ⟨#[]⟩), .nilsl] parts).map .agg := aBuild_eq (by kernel_rfl) parts
theorem zero53 : aZero prog 53 = some (.agg [.nilsl, .val (.int .i64 0), .val (.int .i64 0), .val (.int .i64 0), .val (.string ⟨#[]⟩), .nilsl]) := by kernel_rfl
theorem alloc53 (σ : Sto) : aAlloc prog σ 53 = aNewVar σ (.agg [.nilsl, .val (.int .i64 0), .val (.int .i64 0), .val (.int .i64 0), .val (.string ⟨#[]⟩), .nilsl]) := alloc_eq (by kernel_rfl) σ
theorem sto53 (σ : Sto) (v p : AV) : aStore prog σ 53 v p = aStoreN σ 6 v p := aStore_eq (by kernel_rfl) σ v p
theorem tO54 : tAgg prog 54 = some none := by kernel_rfl
theorem get54 (c : AV) (cs : List AV) : aGet prog 54 (c :: cs) = some c := by rw [aGet_one tO54]; rfl
theorem zero54 : aZero prog 54 = some (.val (.pointer none)) := by kernel_rfl
theorem alloc54 (σ : Sto) : aAlloc prog σ 54 = aNewVar σ (.val (.pointer none)) := alloc_eq (by kernel_rfl) σ
theorem sto54 (σ : Sto) (v p : AV) : aStore prog σ 54 v p = aStoreN σ 1 v p := aStore_eq (by kernel_rfl) σ v p
theorem ptr54 (o off : Nat) : aBin prog .eql 54 (.ref o off) (.val (.pointer none)) = some (.val (.bool false)) := bin_ptr (by kernel_rfl) o off
theorem ptrn54 (o off : Nat) : aBin prog .neq 54 (.ref o off) (.val (.pointer none)) = some (.val (.bool true)) := bin_ptrn (by kernel_rfl) o off
theorem tO55 : tAgg prog 55 = some none := by kernel_rfl
theorem get55 (c : AV) (cs : List AV) : aGet prog 55 (c :: cs) = some c := by rw [aGet_one tO55]; rfl
theorem zero55 : aZero prog 55 = some (.nilsl) := by kernel_rfl
theorem alloc55 (σ : Sto) : aAlloc prog σ 55 = aNewVar σ (.nilsl) := alloc_eq (by kernel_rfl) σ
theorem sto55 (σ : Sto) (v p : AV) : aStore prog σ 55 v p = aStoreN σ 1 v p := aStore_eq (by kernel_rfl) σ v p
theorem len55 (σ : Sto) (x : AV) : aLen prog σ 55 x = aLenSl x := aLen_sl (by kernel_rfl) σ x
theorem idx55 (x i : AV) : aIndexAddr prog 55 x i = aAt 1 x i := aIndexAddr_eq (by kernel_rfl) x i
theorem app55 (σ : Sto) (u : TypeId) (nl : Bool) (es : List AV) (k : Nat) (x : AV) : aAppendO prog σ 55 u nl 1 es k x = (aSrcE prog u 1 x).bind fun ds => appAt σ nl 1 1 es k ds σ[k]? := aAppendO_eq (by kernel_rfl) σ nl es k x
theorem src55 (x : AV) : aSrcE prog 55 1 x = aSrcS 1 x := aSrcE_sl (by kernel_rfl) 1 x
theorem nil55 (σ : Sto) (u : TypeId) (y : AV) : aApp prog false σ 55 u .nilsl y = aAppendO prog (σ ++ [.cap 0 1]) 55 u true 1 [] σ.length y := aApp_nil (by kernel_rfl) (by decide) σ u y
theorem row55 {len : Nat} {parts : List (Nat × AV)} (hl : len * 1 ≤ 16777216) (hp : 0 < len) (hi : parts.map (·.1) = List.range len) (hv : ∀ p ∈ parts, p.2.cells.length = 1 ∧ p.2.cells.all AV.one = true) : aBuildRow prog 55 len parts = some (.sl 1 (parts.map (·.2))) := aBuildRow_eq (by kernel_rfl) hl hp hi hv
theorem row1_55 (σ : Sto) (v : AV) (h1 : v.cells.length = 1) (h2 : v.cells.all AV.one = true) : aRow prog false σ 55 1 [(0, v)] = some (.slf 1 [v], σ) := aRow_slf (by kernel_rfl) (by decide) (row55 (len := 1) (parts := [(0, v)]) (by decide) (by decide) rfl (by intro p hp; simp only [List.mem_singleton] at hp; subst hp; exact ⟨h1, h2⟩)) σ
theorem tM55 : tMk prog 55 = some ([.val (.int .u8 0)], 1, 1) := by kernel_rfl
theorem mk55 (σ : Sto) (k k1 : IntKind) (n : Int) : aMakeSlice prog σ 55 (.val (.int k n)) (.val (.int k1 n)) = if 0 ≤ n ∧ fits n.toNat 1 = true then some (.osl σ.length 0 n.toNat 1, σ ++ [.cells (aZeros [.val (.int .u8 0)] (n.toNat * 1))]) else none := aMakeSlice_eq tM55 σ k k1 n
theorem rowm55 (σ : Sto) (v : AV) (h0 : v.cells.length = 1) (h1 : v.cells.all AV.one = true) : aRow prog true σ 55 1 [(0, v)] = some (.osl σ.length 0 1 1, σ ++ [.cells v.cells]) := aRow_live tM55 (by decide) σ v h0 h1
theorem row0_55 (σ : Sto) : aRow prog false σ 55 0 [] = some (.slo false 1 [] σ.length, σ ++ [.cap 0 1]) := aRow_zero (by kernel_rfl) (by decide) σ
theorem tA57 : tAgg prog 57 = some (some 2) := by kernel_rfl
theorem get57 (a0 a1 : AV) (l : List AV) : aGet prog 57 (a0 :: a1 :: l) = some (.agg [a0, a1]) := by rw [aGet_many tA57, if_pos (by simp)]; rfl
theorem fA57_0 (p : AV) : aFieldAddr prog 57 0 p = aOff 0 p := aFieldAddr_eq (t := 54) (by kernel_rfl) p
theorem fd57_0 (cs : List AV) : aField prog 57 0 (.agg cs) = cs[0]? := aField_eq (t := 54) (r := none) (by kernel_rfl) (by kernel_rfl) cs
theorem fA57_1 (p : AV) : aFieldAddr prog 57 1 p = aOff 1 p := aFieldAddr_eq (t := 55) (by kernel_rfl) p
theorem fd57_1 (cs : List AV) : aField prog 57 1 (.agg cs) = cs[1]? := aField_eq (t := 55) (r := none) (by kernel_rfl) (by kernel_rfl) cs
theorem bld57 (parts : List (Nat × AV)) : aBuild prog 57 parts = (aFill (fun j => [(0, 1), (1, 1)][j]?) [.val (.pointer none), .nilsl] parts).map .agg := aBuild_eq (by kernel_rfl) parts
theorem zero57 : aZero prog 57 = some (.agg [.val (.pointer none), .nilsl]) := by kernel_rfl
theorem alloc57 (σ : Sto) : aAlloc prog σ 57 = aNewVar σ (.agg [.val (.pointer none), .nilsl]) := alloc_eq (by kernel_rfl) σ
theorem sto57 (σ : Sto) (v p : AV) : aStore prog σ 57 v p = aStoreN σ 2 v p := aStore_eq (by kernel_rfl) σ v p
theorem tA59 : tAgg prog 59 = some (some 2) := by kernel_rfl
theorem get59 (a0 a1 : AV) (l : List AV) : aGet prog 59 (a0 :: a1 :: l) = some (.agg [a0, a1]) := by rw [aGet_many tA59, if_pos (by simp)]; rfl
theorem fA59_0 (p : AV) : aFieldAddr prog 59 0 p = aOff 0 p := aFieldAddr_eq (t := 57) (by kernel_rfl) p
theorem fd59_0 (cs : List AV) : aField prog 59 0 (.agg cs) = some (.agg ((cs.drop 0).take 2)) := aField_eq (t := 57) (r := some 2) (by kernel_rfl) (by kernel_rfl) cs
theorem bld59 (parts : List (Nat × AV)) : aBuild prog 59 parts = (aFill (fun j => [(0, 2)][j]?) [.val (.pointer none), .nilsl] parts).map .agg := aBuild_eq (by kernel_rfl) parts
theorem zero59 : aZero prog 59 = some (.agg [.val (.pointer none), .nilsl]) := by kernel_rfl
theorem alloc59 (σ : Sto) : aAlloc prog σ 59 = aNewVar σ (.agg [.val (.pointer none), .nilsl]) := alloc_eq (by kernel_rfl) σ
theorem sto59 (σ : Sto) (v p : AV) : aStore prog σ 59 v p = aStoreN σ 2 v p := aStore_eq (by kernel_rfl) σ v p
theorem tO60 : tAgg prog 60 = some none := by kernel_rfl
theorem get60 (c : AV) (cs : List AV) : aGet prog 60 (c :: cs) = some c := by rw [aGet_one tO60]; rfl
theorem zero60 : aZero prog 60 = some (.nilsl) := by kernel_rfl
theorem alloc60 (σ : Sto) : aAlloc prog σ 60 = aNewVar σ (.nilsl) := alloc_eq (by kernel_rfl) σ
theorem sto60 (σ : Sto) (v p : AV) : aStore prog σ 60 v p = aStoreN σ 1 v p := aStore_eq (by kernel_rfl) σ v p
theorem len60 (σ : Sto) (x : AV) : aLen prog σ 60 x = aLenSl x := aLen_sl (by kernel_rfl) σ x
theorem idx60 (x i : AV) : aIndexAddr prog 60 x i = aAt 2 x i := aIndexAddr_eq (by kernel_rfl) x i
theorem app60 (σ : Sto) (u : TypeId) (nl : Bool) (es : List AV) (k : Nat) (x : AV) : aAppendO prog σ 60 u nl 2 es k x = (aSrcE prog u 2 x).bind fun ds => appAt σ nl 2 24 es k ds σ[k]? := aAppendO_eq (by kernel_rfl) σ nl es k x
theorem src60 (x : AV) : aSrcE prog 60 2 x = aSrcS 2 x := aSrcE_sl (by kernel_rfl) 2 x
theorem nil60 (σ : Sto) (u : TypeId) (y : AV) : aApp prog false σ 60 u .nilsl y = aAppendO prog (σ ++ [.cap 0 2]) 60 u true 2 [] σ.length y := aApp_nil (by kernel_rfl) (by decide) σ u y
theorem row60 {len : Nat} {parts : List (Nat × AV)} (hl : len * 2 ≤ 16777216) (hp : 0 < len) (hi : parts.map (·.1) = List.range len) (hv : ∀ p ∈ parts, p.2.cells.length = 2 ∧ p.2.cells.all AV.one = true) : aBuildRow prog 60 len parts = some (.sl 2 (parts.map (·.2))) := aBuildRow_eq (by kernel_rfl) hl hp hi hv
theorem row1_60 (σ : Sto) (v : AV) (h1 : v.cells.length = 2) (h2 : v.cells.all AV.one = true) : aRow prog false σ 60 1 [(0, v)] = some (.sl 2 [v], σ) := aRow_sl (by kernel_rfl) (by decide) (row60 (len := 1) (parts := [(0, v)]) (by decide) (by decide) rfl (by intro p hp; simp only [List.mem_singleton] at hp; subst hp; exact ⟨h1, h2⟩)) σ
theorem tM60 : tMk prog 60 = some ([.val (.string ⟨#[]⟩), .val (.int .i64 0)], 2, 24) := by kernel_rfl
theorem mk60 (σ : Sto) (k k1 : IntKind) (n : Int) : aMakeSlice prog σ 60 (.val (.int k n)) (.val (.int k1 n)) = if 0 ≤ n ∧ fits n.toNat 24 = true then some (.osl σ.length 0 n.toNat 2, σ ++ [.cells (aZeros [.val (.string ⟨#[]⟩), .val (.int .i64 0)] (n.toNat * 2))]) else none := aMakeSlice_eq tM60 σ k k1 n
theorem rowm60 (σ : Sto) (v : AV) (h0 : v.cells.length = 2) (h1 : v.cells.all AV.one = true) : aRow prog true σ 60 1 [(0, v)] = some (.osl σ.length 0 1 2, σ ++ [.cells v.cells]) := aRow_live tM60 (by decide) σ v h0 h1
theorem row0_60 (σ : Sto) : aRow prog false σ 60 0 [] = some (.slo false 2 [] σ.length, σ ++ [.cap 0 2]) := aRow_zero (by kernel_rfl) (by decide) σ
theorem tO61 : tAgg prog 61 = some none := by kernel_rfl
theorem get61 (c : AV) (cs : List AV) : aGet prog 61 (c :: cs) = some c := by rw [aGet_one tO61]; rfl
theorem zero61 : aZero prog 61 = some (.nilsl) := by kernel_rfl
theorem alloc61 (σ : Sto) : aAlloc prog σ 61 = aNewVar σ (.nilsl) := alloc_eq (by kernel_rfl) σ
theorem sto61 (σ : Sto) (v p : AV) : aStore prog σ 61 v p = aStoreN σ 1 v p := aStore_eq (by kernel_rfl) σ v p
theorem len61 (σ : Sto) (x : AV) : aLen prog σ 61 x = aLenSl x := aLen_sl (by kernel_rfl) σ x
theorem idx61 (x i : AV) : aIndexAddr prog 61 x i = aAt 6 x i := aIndexAddr_eq (by kernel_rfl) x i
theorem app61 (σ : Sto) (u : TypeId) (nl : Bool) (es : List AV) (k : Nat) (x : AV) : aAppendO prog σ 61 u nl 6 es k x = (aSrcE prog u 6 x).bind fun ds => appAt σ nl 6 88 es k ds σ[k]? := aAppendO_eq (by kernel_rfl) σ nl es k x
theorem src61 (x : AV) : aSrcE prog 61 6 x = aSrcS 6 x := aSrcE_sl (by kernel_rfl) 6 x
theorem nil61 (σ : Sto) (u : TypeId) (y : AV) : aApp prog false σ 61 u .nilsl y = aAppendO prog (σ ++ [.cap 0 6]) 61 u true 6 [] σ.length y := aApp_nil (by kernel_rfl) (by decide) σ u y
theorem row61 {len : Nat} {parts : List (Nat × AV)} (hl : len * 6 ≤ 16777216) (hp : 0 < len) (hi : parts.map (·.1) = List.range len) (hv : ∀ p ∈ parts, p.2.cells.length = 6 ∧ p.2.cells.all AV.one = true) : aBuildRow prog 61 len parts = some (.sl 6 (parts.map (·.2))) := aBuildRow_eq (by kernel_rfl) hl hp hi hv
theorem row1_61 (σ : Sto) (v : AV) (h1 : v.cells.length = 6) (h2 : v.cells.all AV.one = true) : aRow prog false σ 61 1 [(0, v)] = some (.sl 6 [v], σ) := aRow_sl (by kernel_rfl) (by decide) (row61 (len := 1) (parts := [(0, v)]) (by decide) (by decide) rfl (by intro p hp; simp only [List.mem_singleton] at hp; subst hp; exact ⟨h1, h2⟩)) σ
theorem tM61 : tMk prog 61 = some ([.nilsl, .val (.int .i64 0), .val (.int .i64 0), .val (.int .i64 0), .val (.string ⟨#[]⟩), .nilsl], 6, 88) := by kernel_rfl
theorem mk61 (σ : Sto) (k k1 : IntKind) (n : Int) : aMakeSlice prog σ 61 (.val (.int k n)) (.val (.int k1 n)) = if 0 ≤ n ∧ fits n.toNat 88 = true then some (.osl σ.length 0 n.toNat 6, σ ++ [.cells (aZeros [.nilsl, .val (.int .i64 0), .val (.int .i64 0), .val (.int .i64 0), .val (.string ⟨#[]⟩), .nilsl] (n.toNat * 6))]) else none := aMakeSlice_eq tM61 σ k k1 n
theorem rowm61 (σ : Sto) (v : AV) (h0 : v.cells.length = 6) (h1 : v.cells.all AV.one = true) : aRow prog true σ 61 1 [(0, v)] = some (.osl σ.length 0 1 6, σ ++ [.cells v.cells]) := aRow_live tM61 (by decide) σ v h0 h1
theorem row0_61 (σ : Sto) : aRow prog false σ 61 0 [] = some (.slo false 6 [] σ.length, σ ++ [.cap 0 6]) := aRow_zero (by kernel_rfl) (by decide) σ
theorem tA63 : tAgg prog 63 = some (some 5) := by kernel_rfl
theorem get63 (a0 a1 a2 a3 a4 : AV) (l : List AV) : aGet prog 63 (a0 :: a1 :: a2 :: a3 :: a4 :: l) = some (.agg [a0, a1, a2, a3, a4]) := by rw [aGet_many tA63, if_pos (by simp)]; rfl
theorem fA63_0 (p : AV) : aFieldAddr prog 63 0 p = aOff 0 p := aFieldAddr_eq (t := 9) (by kernel_rfl) p
theorem fd63_0 (cs : List AV) : aField prog 63 0 (.agg cs) = cs[0]? := aField_eq (t := 9) (r := none) (by kernel_rfl) (by kernel_rfl) cs
theorem fA63_1 (p : AV) : aFieldAddr prog 63 1 p = aOff 1 p := aFieldAddr_eq (t := 60) (by kernel_rfl) p
theorem fd63_1 (cs : List AV) : aField prog 63 1 (.agg cs) = cs[1]? := aField_eq (t := 60) (r := none) (by kernel_rfl) (by kernel_rfl) cs
theorem fA63_2 (p : AV) : aFieldAddr prog 63 2 p = aOff 2 p := aFieldAddr_eq (t := 60) (by kernel_rfl) p
theorem fd63_2 (cs : List AV) : aField prog 63 2 (.agg cs) = cs[2]? := aField_eq (t := 60) (r := none) (by kernel_rfl) (by kernel_rfl) cs
theorem fA63_3 (p : AV) : aFieldAddr prog 63 3 p = aOff 3 p := aFieldAddr_eq (t := 60) (by kernel_rfl) p
theorem fd63_3 (cs : List AV) : aField prog 63 3 (.agg cs) = cs[3]? := aField_eq (t := 60) (r := none) (by kernel_rfl) (by kernel_rfl) cs
theorem fA63_4 (p : AV) : aFieldAddr prog 63 4 p = aOff 4 p := aFieldAddr_eq (t := 61) (by kernel_rfl) p
theorem fd63_4 (cs : List AV) : aField prog 63 4 (.agg cs) = cs[4]? := aField_eq (t := 61) (r := none) (by kernel_rfl) (by kernel_rfl) cs
theorem bld63 (parts : List (Nat × AV)) : aBuild prog 63 parts = (aFill (fun j => [(0, 1), (1, 1), (2, 1), (3, 1), (4, 1)][j]?) [.val (.string ⟨#[]⟩), .nilsl, .nilsl, .nilsl, .nilsl] parts).map .agg := aBuild_eq (by kernel_rfl) parts
theorem zero63 : aZero prog 63 = some (.agg [.val (.string ⟨#[]⟩), .nilsl, .nilsl, .nilsl, .nilsl]) := by kernel_rfl
theorem alloc63 (σ : Sto) : aAlloc prog σ 63 = aNewVar σ (.agg [.val (.string ⟨#[]⟩), .nilsl, .nilsl, .nilsl, .nilsl]) := alloc_eq (by kernel_rfl) σ
theorem sto63 (σ : Sto) (v p : AV) : aStore prog σ 63 v p = aStoreN σ 5 v p := aStore_eq (by kernel_rfl) σ v p
theorem tA68 : tAgg prog 68 = some (some 6) := by kernel_rfl
theorem get68 (a0 a1 a2 a3 a4 a5 : AV) (l : List AV) : aGet prog 68 (a0 :: a1 :: a2 :: a3 :: a4 :: a5 :: l) = some (.agg [a0, a1, a2, a3, a4, a5]) := by rw [aGet_many tA68, if_pos (by simp)]; rfl
theorem fA68_0 (p : AV) : aFieldAddr prog 68 0 p = aOff 0 p := aFieldAddr_eq (t := 51) (by kernel_rfl) p
theorem fd68_0 (cs : List AV) : aField prog 68 0 (.agg cs) = cs[0]? := aField_eq (t := 51) (r := none) (by kernel_rfl) (by kernel_rfl) cs
theorem fA68_1 (p : AV) : aFieldAddr prog 68 1 p = aOff 1 p := aFieldAddr_eq (t := 43) (by kernel_rfl) p
theorem fd68_1 (cs : List AV) : aField prog 68 1 (.agg cs) = some (.agg ((cs.drop 1).take 5)) := aField_eq (t := 43) (r := some 5) (by kernel_rfl) (by kernel_rfl) cs
theorem bld68 (parts : List (Nat × AV)) : aBuild prog 68 parts = (aFill (fun j => [(0, 1), (1, 5)][j]?) [.nilsl, .val (.int .i64 0), .val (.int .i64 0), .val (.int .i64 0), .val (.string ⟨#[]⟩), .nilsl] parts).map .agg := aBuild_eq (by kernel_rfl) parts
theorem zero68 : aZero prog 68 = some (.agg [.nilsl, .val (.int .i64 0), .val (.int .i64 0), .val (.int .i64 0), .val (.string ⟨#[]⟩), .nilsl]) := by kernel_rfl
theorem alloc68 (σ : Sto) : aAlloc prog σ 68 = aNewVar σ (.agg [.nilsl, .val (.int .i64 0), .val (.int .i64 0), .val (.int .i64 0), .val (.string ⟨#[]⟩), .nilsl]) := alloc_eq (by kernel_rfl) σ
theorem sto68 (σ : Sto) (v p : AV) : aStore prog σ 68 v p = aStoreN σ 6 v p := aStore_eq (by kernel_rfl) σ v p
theorem tO78 : tAgg prog 78 = some none := by kernel_rfl
theorem get78 (c : AV) (cs : List AV) : aGet prog 78 (c :: cs) = some c := by rw [aGet_one tO78]; rfl
theorem zero78 : aZero prog 78 = some (.val .nilFunc) := by kernel_rfl
theorem alloc78 (σ : Sto) : aAlloc prog σ 78 = aNewVar σ (.val .nilFunc) := alloc_eq (by kernel_rfl) σ
theorem sto78 (σ : Sto) (v p : AV) : aStore prog σ 78 v p = aStoreN σ 1 v p := aStore_eq (by kernel_rfl) σ v p
theorem tO79 : tAgg prog 79 = some none := by kernel_rfl
theorem get79 (c : AV) (cs : List AV) : aGet prog 79 (c :: cs) = some c := by rw [aGet_one tO79]; rfl
theorem zero79 : aZero prog 79 = some (.val (.pointer none)) := by kernel_rfl
theorem alloc79 (σ : Sto) : aAlloc prog σ 79 = aNewVar σ (.val (.pointer none)) := alloc_eq (by kernel_rfl) σ
theorem sto79 (σ : Sto) (v p : AV) : aStore prog σ 79 v p = aStoreN σ 1 v p := aStore_eq (by kernel_rfl) σ v p
theorem ptr79 (o off : Nat) : aBin prog .eql 79 (.ref o off) (.val (.pointer none)) = some (.val (.bool false)) := bin_ptr (by kernel_rfl) o off
theorem ptrn79 (o off : Nat) : aBin prog .neq 79 (.ref o off) (.val (.pointer none)) = some (.val (.bool true)) := bin_ptrn (by kernel_rfl) o off
theorem tO83 : tAgg prog 83 = some none := by kernel_rfl
theorem get83 (c : AV) (cs : List AV) : aGet prog 83 (c :: cs) = some c := by rw [aGet_one tO83]; rfl
theorem zero83 : aZero prog 83 = some (.val (.pointer none)) := by kernel_rfl
theorem alloc83 (σ : Sto) : aAlloc prog σ 83 = aNewVar σ (.val (.pointer none)) := alloc_eq (by kernel_rfl) σ
theorem sto83 (σ : Sto) (v p : AV) : aStore prog σ 83 v p = aStoreN σ 1 v p := aStore_eq (by kernel_rfl) σ v p
theorem ptr83 (o off : Nat) : aBin prog .eql 83 (.ref o off) (.val (.pointer none)) = some (.val (.bool false)) := bin_ptr (by kernel_rfl) o off
theorem ptrn83 (o off : Nat) : aBin prog .neq 83 (.ref o off) (.val (.pointer none)) = some (.val (.bool true)) := bin_ptrn (by kernel_rfl) o off
theorem tA85 : tAgg prog 85 = some (some 2) := by kernel_rfl
theorem get85 (a0 a1 : AV) (l : List AV) : aGet prog 85 (a0 :: a1 :: l) = some (.agg [a0, a1]) := by rw [aGet_many tA85, if_pos (by simp)]; rfl
theorem fA85_0 (p : AV) : aFieldAddr prog 85 0 p = aOff 0 p := aFieldAddr_eq (t := 9) (by kernel_rfl) p
theorem fd85_0 (cs : List AV) : aField prog 85 0 (.agg cs) = cs[0]? := aField_eq (t := 9) (r := none) (by kernel_rfl) (by kernel_rfl) cs
theorem fA85_1 (p : AV) : aFieldAddr prog 85 1 p = aOff 1 p := aFieldAddr_eq (t := 3) (by kernel_rfl) p
theorem fd85_1 (cs : List AV) : aField prog 85 1 (.agg cs) = cs[1]? := aField_eq (t := 3) (r := none) (by kernel_rfl) (by kernel_rfl) cs
theorem bld85 (parts : List (Nat × AV)) : aBuild prog 85 parts = (aFill (fun j => [(0, 1), (1, 1)][j]?) [.val (.string ⟨#[]⟩), .val (.int .i64 0)] parts).map .agg := aBuild_eq (by kernel_rfl) parts
theorem zero85 : aZero prog 85 = some (.agg [.val (.string ⟨#[]⟩), .val (.int .i64 0)]) := by kernel_rfl
theorem alloc85 (σ : Sto) : aAlloc prog σ 85 = aNewVar σ (.agg [.val (.string ⟨#[]⟩), .val (.int .i64 0)]) := alloc_eq (by kernel_rfl) σ
theorem sto85 (σ : Sto) (v p : AV) : aStore prog σ 85 v p = aStoreN σ 2 v p := aStore_eq (by kernel_rfl) σ v p
theorem tA86 : tAgg prog 86 = some (some 2) := by kernel_rfl
theorem get86 (a0 a1 : AV) (l : List AV) : aGet prog 86 (a0 :: a1 :: l) = some (.agg [a0, a1]) := by rw [aGet_many tA86, if_pos (by simp)]; rfl
theorem fA86_0 (p : AV) : aFieldAddr prog 86 0 p = aOff 0 p := aFieldAddr_eq (t := 9) (by kernel_rfl) p
theorem fd86_0 (cs : List AV) : aField prog 86 0 (.agg cs) = cs[0]? := aField_eq (t := 9) (r := none) (by kernel_rfl) (by kernel_rfl) cs
theorem fA86_1 (p : AV) : aFieldAddr prog 86 1 p = aOff 1 p := aFieldAddr_eq (t := 3) (by kernel_rfl) p
theorem fd86_1 (cs : List AV) : aField prog 86 1 (.agg cs) = cs[1]? := aField_eq (t := 3) (r := none) (by kernel_rfl) (by kernel_rfl) cs
theorem bld86 (parts : List (Nat × AV)) : aBuild prog 86 parts = (aFill (fun j => [(0, 1), (1, 1)][j]?) [.val (.string ⟨#[]⟩), .val (.int .i64 0)] parts).map .agg := aBuild_eq (by kernel_rfl) parts
theorem zero86 : aZero prog 86 = some (.agg [.val (.string ⟨#[]⟩), .val (.int .i64 0)]) := by kernel_rfl
theorem alloc86 (σ : Sto) : aAlloc prog σ 86 = aNewVar σ (.agg [.val (.string ⟨#[]⟩), .val (.int .i64 0)]) := alloc_eq (by kernel_rfl) σ
theorem sto86 (σ : Sto) (v p : AV) : aStore prog σ 86 v p = aStoreN σ 2 v p := aStore_eq (by kernel_rfl) σ v p
theorem tO87 : tAgg prog 87 = some none := by kernel_rfl
theorem get87 (c : AV) (cs : List AV) : aGet prog 87 (c :: cs) = some c := by rw [aGet_one tO87]; rfl
theorem zero87 : aZero prog 87 = some (.val .nilFunc) := by kernel_rfl
theorem alloc87 (σ : Sto) : aAlloc prog σ 87 = aNewVar σ (.val .nilFunc) := alloc_eq (by kernel_rfl) σ
theorem sto87 (σ : Sto) (v p : AV) : aStore prog σ 87 v p = aStoreN σ 1 v p := aStore_eq (by kernel_rfl) σ v p
theorem tO89 : tAgg prog 89 = some none := by kernel_rfl
theorem get89 (c : AV) (cs : List AV) : aGet prog 89 (c :: cs) = some c := by rw [aGet_one tO89]; rfl
theorem zero89 : aZero prog 89 = some (.nilsl) := by kernel_rfl
theorem alloc89 (σ : Sto) : aAlloc prog σ 89 = aNewVar σ (.nilsl) := alloc_eq (by kernel_rfl) σ
theorem sto89 (σ : Sto) (v p : AV) : aStore prog σ 89 v p = aStoreN σ 1 v p := aStore_eq (by kernel_rfl) σ v p
theorem len89 (σ : Sto) (x : AV) : aLen prog σ 89 x = aLenSl x := aLen_sl (by kernel_rfl) σ x
theorem idx89 (x i : AV) : aIndexAddr prog 89 x i = aAt 1 x i := aIndexAddr_eq (by kernel_rfl) x i
theorem app89 (σ : Sto) (u : TypeId) (nl : Bool) (es : List AV) (k : Nat) (x : AV) : aAppendO prog σ 89 u nl 1 es k x = (aSrcE prog u 1 x).bind fun ds => appAt σ nl 1 8 es k ds σ[k]? := aAppendO_eq (by kernel_rfl) σ nl es k x
theorem src89 (x : AV) : aSrcE prog 89 1 x = aSrcS 1 x := aSrcE_sl (by kernel_rfl) 1 x
theorem nil89 (σ : Sto) (u : TypeId) (y : AV) : aApp prog false σ 89 u .nilsl y = aAppendO prog (σ ++ [.cap 0 1]) 89 u true 1 [] σ.length y := aApp_nil (by kernel_rfl) (by decide) σ u y
theorem row89 {len : Nat} {parts : List (Nat × AV)} (hl : len * 1 ≤ 16777216) (hp : 0 < len) (hi : parts.map (·.1) = List.range len) (hv : ∀ p ∈ parts, p.2.cells.length = 1 ∧ p.2.cells.all AV.one = true) : aBuildRow prog 89 len parts = some (.sl 1 (parts.map (·.2))) := aBuildRow_eq (by kernel_rfl) hl hp hi hv
theorem row1_89 (σ : Sto) (v : AV) (h1 : v.cells.length = 1) (h2 : v.cells.all AV.one = true) : aRow prog false σ 89 1 [(0, v)] = some (.sl 1 [v], σ) := aRow_sl (by kernel_rfl) (by decide) (row89 (len := 1) (parts := [(0, v)]) (by decide) (by decide) rfl (by intro p hp; simp only [List.mem_singleton] at hp; subst hp; exact ⟨h1, h2⟩)) σ
theorem tM89 : tMk prog 89 = some ([.val (.int .i64 0)], 1, 8) := by kernel_rfl
theorem mk89 (σ : Sto) (k k1 : IntKind) (n : Int) : aMakeSlice prog σ 89 (.val (.int k n)) (.val (.int k1 n)) = if 0 ≤ n ∧ fits n.toNat 8 = true then some (.osl σ.length 0 n.toNat 1, σ ++ [.cells (aZeros [.val (.int .i64 0)] (n.toNat * 1))]) else none := aMakeSlice_eq tM89 σ k k1 n
theorem rowm89 (σ : Sto) (v : AV) (h0 : v.cells.length = 1) (h1 : v.cells.all AV.one = true) : aRow prog true σ 89 1 [(0, v)] = some (.osl σ.length 0 1 1, σ ++ [.cells v.cells]) := aRow_live tM89 (by decide) σ v h0 h1
theorem row0_89 (σ : Sto) : aRow prog false σ 89 0 [] = some (.slo false 1 [] σ.length, σ ++ [.cap 0 1]) := aRow_zero (by kernel_rfl) (by decide) σ
theorem tO99 : tAgg prog 99 = some none := by kernel_rfl
theorem get99 (c : AV) (cs : List AV) : aGet prog 99 (c :: cs) = some c := by rw [aGet_one tO99]; rfl
theorem zero99 : aZero prog 99 = some (.val .nilFunc) := by kernel_rfl
theorem alloc99 (σ : Sto) : aAlloc prog σ 99 = aNewVar σ (.val .nilFunc) := alloc_eq (by kernel_rfl) σ
theorem sto99 (σ : Sto) (v p : AV) : aStore prog σ 99 v p = aStoreN σ 1 v p := aStore_eq (by kernel_rfl) σ v p
theorem tO106 : tAgg prog 106 = some none := by kernel_rfl
theorem get106 (c : AV) (cs : List AV) : aGet prog 106 (c :: cs) = some c := by rw [aGet_one tO106]; rfl
theorem zero106 : aZero prog 106 = some (.val .nilFunc) := by kernel_rfl
theorem alloc106 (σ : Sto) : aAlloc prog σ 106 = aNewVar σ (.val .nilFunc) := alloc_eq (by kernel_rfl) σ
theorem sto106 (σ : Sto) (v p : AV) : aStore prog σ 106 v p = aStoreN σ 1 v p := aStore_eq (by kernel_rfl) σ v p
theorem tA109 : tAgg prog 109 = some (some 2) := by kernel_rfl
theorem get109 (a0 a1 : AV) (l : List AV) : aGet prog 109 (a0 :: a1 :: l) = some (.agg [a0, a1]) := by rw [aGet_many tA109, if_pos (by simp)]; rfl
theorem fA109_0 (p : AV) : aFieldAddr prog 109 0 p = aOff 0 p := aFieldAddr_eq (t := 9) (by kernel_rfl) p
theorem fd109_0 (cs : List AV) : aField prog 109 0 (.agg cs) = cs[0]? := aField_eq (t := 9) (r := none) (by kernel_rfl) (by kernel_rfl) cs
theorem fA109_1 (p : AV) : aFieldAddr prog 109 1 p = aOff 1 p := aFieldAddr_eq (t := 3) (by kernel_rfl) p
theorem fd109_1 (cs : List AV) : aField prog 109 1 (.agg cs) = cs[1]? := aField_eq (t := 3) (r := none) (by kernel_rfl) (by kernel_rfl) cs
theorem bld109 (parts : List (Nat × AV)) : aBuild prog 109 parts = (aFill (fun j => [(0, 1), (1, 1)][j]?) [.val (.string ⟨#[]⟩), .val (.int .i64 0)] parts).map .agg := aBuild_eq (by kernel_rfl) parts
theorem zero109 : aZero prog 109 = some (.agg [.val (.string ⟨#[]⟩), .val (.int .i64 0)]) := by kernel_rfl
theorem alloc109 (σ : Sto) : aAlloc prog σ 109 = aNewVar σ (.agg [.val (.string ⟨#[]⟩), .val (.int .i64 0)]) := alloc_eq (by kernel_rfl) σ
theorem sto109 (σ : Sto) (v p : AV) : aStore prog σ 109 v p = aStoreN σ 2 v p := aStore_eq (by kernel_rfl) σ v p
theorem tO110 : tAgg prog 110 = some none := by kernel_rfl
theorem get110 (c : AV) (cs : List AV) : aGet prog 110 (c :: cs) = some c := by rw [aGet_one tO110]; rfl
theorem zero110 : aZero prog 110 = some (.nilsl) := by kernel_rfl
theorem alloc110 (σ : Sto) : aAlloc prog σ 110 = aNewVar σ (.nilsl) := alloc_eq (by kernel_rfl) σ
theorem sto110 (σ : Sto) (v p : AV) : aStore prog σ 110 v p = aStoreN σ 1 v p := aStore_eq (by kernel_rfl) σ v p
theorem len110 (σ : Sto) (x : AV) : aLen prog σ 110 x = aLenSl x := aLen_sl (by kernel_rfl) σ x
theorem idx110 (x i : AV) : aIndexAddr prog 110 x i = aAt 2 x i := aIndexAddr_eq (by kernel_rfl) x i
theorem app110 (σ : Sto) (u : TypeId) (nl : Bool) (es : List AV) (k : Nat) (x : AV) : aAppendO prog σ 110 u nl 2 es k x = (aSrcE prog u 2 x).bind fun ds => appAt σ nl 2 24 es k ds σ[k]? := aAppendO_eq (by kernel_rfl) σ nl es k x
theorem src110 (x : AV) : aSrcE prog 110 2 x = aSrcS 2 x := aSrcE_sl (by kernel_rfl) 2 x
theorem nil110 (σ : Sto) (u : TypeId) (y : AV) : aApp prog false σ 110 u .nilsl y = aAppendO prog (σ ++ [.cap 0 2]) 110 u true 2 [] σ.length y := aApp_nil (by kernel_rfl) (by decide) σ u y
theorem row110 {len : Nat} {parts : List (Nat × AV)} (hl : len * 2 ≤ 16777216) (hp : 0 < len) (hi : parts.map (·.1) = List.range len) (hv : ∀ p ∈ parts, p.2.cells.length = 2 ∧ p.2.cells.all AV.one = true) : aBuildRow prog 110 len parts = some (.sl 2 (parts.map (·.2))) := aBuildRow_eq (by kernel_rfl) hl hp hi hv
theorem row1_110 (σ : Sto) (v : AV) (h1 : v.cells.length = 2) (h2 : v.cells.all AV.one = true) : aRow prog false σ 110 1 [(0, v)] = some (.sl 2 [v], σ) := aRow_sl (by kernel_rfl) (by decide) (row110 (len := 1) (parts := [(0, v)]) (by decide) (by decide) rfl (by intro p hp; simp only [List.mem_singleton] at hp; subst hp; exact ⟨h1, h2⟩)) σ
theorem tM110 : tMk prog 110 = some ([.val (.string ⟨#[]⟩), .val (.int .i64 0)], 2, 24) := by kernel_rfl
theorem mk110 (σ : Sto) (k k1 : IntKind) (n : Int) : aMakeSlice prog σ 110 (.val (.int k n)) (.val (.int k1 n)) = if 0 ≤ n ∧ fits n.toNat 24 = true then some (.osl σ.length 0 n.toNat 2, σ ++ [.cells (aZeros [.val (.string ⟨#[]⟩), .val (.int .i64 0)] (n.toNat * 2))]) else none := aMakeSlice_eq tM110 σ k k1 n
theorem rowm110 (σ : Sto) (v : AV) (h0 : v.cells.length = 2) (h1 : v.cells.all AV.one = true) : aRow prog true σ 110 1 [(0, v)] = some (.osl σ.length 0 1 2, σ ++ [.cells v.cells]) := aRow_live tM110 (by decide) σ v h0 h1
theorem row0_110 (σ : Sto) : aRow prog false σ 110 0 [] = some (.slo false 2 [] σ.length, σ ++ [.cap 0 2]) := aRow_zero (by kernel_rfl) (by decide) σ
theorem tO111 : tAgg prog 111 = some none := by kernel_rfl
theorem get111 (c : AV) (cs : List AV) : aGet prog 111 (c :: cs) = some c := by rw [aGet_one tO111]; rfl
theorem zero111 : aZero prog 111 = some (.val .nilFunc) := by kernel_rfl
theorem alloc111 (σ : Sto) : aAlloc prog σ 111 = aNewVar σ (.val .nilFunc) := alloc_eq (by kernel_rfl) σ
theorem sto111 (σ : Sto) (v p : AV) : aStore prog σ 111 v p = aStoreN σ 1 v p := aStore_eq (by kernel_rfl) σ v p
theorem tA116 : tAgg prog 116 = some (some 24) := by kernel_rfl
theorem get116 (a0 a1 a2 a3 a4 a5 a6 a7 a8 a9 a10 a11 a12 a13 a14 a15 a16 a17 a18 a19 a20 a21 a22 a23 : AV) (l : List AV) : aGet prog 116 (a0 :: a1 :: a2 :: a3 :: a4 :: a5 :: a6 :: a7 :: a8 :: a9 :: a10 :: a11 :: a12 :: a13 :: a14 :: a15 :: a16 :: a17 :: a18 :: a19 :: a20 :: a21 :: a22 :: a23 :: l) = some (.agg [a0, a1, a2, a3, a4, a5, a6, a7, a8, a9, a10, a11, a12, a13, a14, a15, a16, a17, a18, a19, a20, a21, a22, a23]) := by rw [aGet_many tA116, if_pos (by simp)]; rfl
theorem sto116 (σ : Sto) (v p : AV) : aStore prog σ 116 v p = aStoreN σ 24 v p := aStore_eq (by kernel_rfl) σ v p
theorem tO117 : tAgg prog 117 = some none := by kernel_rfl
theorem get117 (c : AV) (cs : List AV) : aGet prog 117 (c :: cs) = some c := by rw [aGet_one tO117]; rfl
theorem zero117 : aZero prog 117 = some (.val (.int .u64 0)) := by kernel_rfl
theorem alloc117 (σ : Sto) : aAlloc prog σ 117 = aNewVar σ (.val (.int .u64 0)) := alloc_eq (by kernel_rfl) σ
theorem sto117 (σ : Sto) (v p : AV) : aStore prog σ 117 v p = aStoreN σ 1 v p := aStore_eq (by kernel_rfl) σ v p
theorem tO124 : tAgg prog 124 = some none := by kernel_rfl
theorem get124 (c : AV) (cs : List AV) : aGet prog 124 (c :: cs) = some c := by rw [aGet_one tO124]; rfl
theorem zero124 : aZero prog 124 = some (.val (.map none)) := by kernel_rfl
theorem alloc124 (σ : Sto) : aAlloc prog σ 124 = aNewVar σ (.val (.map none)) := alloc_eq (by kernel_rfl) σ
theorem sto124 (σ : Sto) (v p : AV) : aStore prog σ 124 v p = aStoreN σ 1 v p := aStore_eq (by kernel_rfl) σ v p
theorem tO126 : tAgg prog 126 = some none := by kernel_rfl
theorem get126 (c : AV) (cs : List AV) : aGet prog 126 (c :: cs) = some c := by rw [aGet_one tO126]; rfl
theorem zero126 : aZero prog 126 = some (.val (.pointer none)) := by kernel_rfl
theorem alloc126 (σ : Sto) : aAlloc prog σ 126 = aNewVar σ (.val (.pointer none)) := alloc_eq (by kernel_rfl) σ
theorem sto126 (σ : Sto) (v p : AV) : aStore prog σ 126 v p = aStoreN σ 1 v p := aStore_eq (by kernel_rfl) σ v p
theorem tA130 : tAgg prog 130 = some (some 20) := by kernel_rfl
theorem get130 (a0 a1 a2 a3 a4 a5 a6 a7 a8 a9 a10 a11 a12 a13 a14 a15 a16 a17 a18 a19 : AV) (l : List AV) : aGet prog 130 (a0 :: a1 :: a2 :: a3 :: a4 :: a5 :: a6 :: a7 :: a8 :: a9 :: a10 :: a11 :: a12 :: a13 :: a14 :: a15 :: a16 :: a17 :: a18 :: a19 :: l) = some (.agg [a0, a1, a2, a3, a4, a5, a6, a7, a8, a9, a10, a11, a12, a13, a14, a15, a16, a17, a18, a19]) := by rw [aGet_many tA130, if_pos (by simp)]; rfl
theorem sto130 (σ : Sto) (v p : AV) : aStore prog σ 130 v p = aStoreN σ 20 v p := aStore_eq (by kernel_rfl) σ v p
theorem tO131 : tAgg prog 131 = some none := by kernel_rfl
theorem get131 (c : AV) (cs : List AV) : aGet prog 131 (c :: cs) = some c := by rw [aGet_one tO131]; rfl
theorem zero131 : aZero prog 131 = some (.val (.int .u32 0)) := by kernel_rfl
theorem alloc131 (σ : Sto) : aAlloc prog σ 131 = aNewVar σ (.val (.int .u32 0)) := alloc_eq (by kernel_rfl) σ
theorem sto131 (σ : Sto) (v p : AV) : aStore prog σ 131 v p = aStoreN σ 1 v p := aStore_eq (by kernel_rfl) σ v p
theorem tA132 : tAgg prog 132 = some (some 65) := by kernel_rfl
theorem get132 (a0 a1 a2 a3 a4 a5 a6 a7 a8 a9 a10 a11 a12 a13 a14 a15 a16 a17 a18 a19 a20 a21 a22 a23 a24 a25 a26 a27 a28 a29 a30 a31 a32 a33 a34 a35 a36 a37 a38 a39 a40 a41 a42 a43 a44 a45 a46 a47 a48 a49 a50 a51 a52 a53 a54 a55 a56 a57 a58 a59 a60 a61 a62 a63 a64 : AV) (l : List AV) : aGet prog 132 (a0 :: a1 :: a2 :: a3 :: a4 :: a5 :: a6 :: a7 :: a8 :: a9 :: a10 :: a11 :: a12 :: a13 :: a14 :: a15 :: a16 :: a17 :: a18 :: a19 :: a20 :: a21 :: a22 :: a23 :: a24 :: a25 :: a26 :: a27 :: a28 :: a29 :: a30 :: a31 :: a32 :: a33 :: a34 :: a35 :: a36 :: a37 :: a38 :: a39 :: a40 :: a41 :: a42 :: a43 :: a44 :: a45 :: a46 :: a47 :: a48 :: a49 :: a50 :: a51 :: a52 :: a53 :: a54 :: a55 :: a56 :: a57 :: a58 :: a59 :: a60 :: a61 :: a62 :: a63 :: a64 :: l) = some (.agg [a0, a1, a2, a3, a4, a5, a6, a7, a8, a9, a10, a11, a12, a13, a14, a15, a16, a17, a18, a19, a20, a21, a22, a23, a24, a25, a26, a27, a28, a29, a30, a31, a32, a33, a34, a35, a36, a37, a38, a39, a40, a41, a42, a43, a44, a45, a46, a47, a48, a49, a50, a51, a52, a53, a54, a55, a56, a57, a58, a59, a60, a61, a62, a63, a64]) := by rw [aGet_many tA132, if_pos (by simp)]; rfl
theorem sto132 (σ : Sto) (v p : AV) : aStore prog σ 132 v p = aStoreN σ 65 v p := aStore_eq (by kernel_rfl) σ v p
theorem tO134 : tAgg prog 134 = some none := by kernel_rfl
theorem get134 (c : AV) (cs : List AV) : aGet prog 134 (c :: cs) = some c := by rw [aGet_one tO134]; rfl
theorem zero134 : aZero prog 134 = some (.val (.int .u64 0)) := by kernel_rfl
theorem alloc134 (σ : Sto) : aAlloc prog σ 134 = aNewVar σ (.val (.int .u64 0)) := alloc_eq (by kernel_rfl) σ
theorem sto134 (σ : Sto) (v p : AV) : aStore prog σ 134 v p = aStoreN σ 1 v p := aStore_eq (by kernel_rfl) σ v p
theorem tA137 : tAgg prog 137 = some (some 32) := by kernel_rfl
theorem get137 (a0 a1 a2 a3 a4 a5 a6 a7 a8 a9 a10 a11 a12 a13 a14 a15 a16 a17 a18 a19 a20 a21 a22 a23 a24 a25 a26 a27 a28 a29 a30 a31 : AV) (l : List AV) : aGet prog 137 (a0 :: a1 :: a2 :: a3 :: a4 :: a5 :: a6 :: a7 :: a8 :: a9 :: a10 :: a11 :: a12 :: a13 :: a14 :: a15 :: a16 :: a17 :: a18 :: a19 :: a20 :: a21 :: a22 :: a23 :: a24 :: a25 :: a26 :: a27 :: a28 :: a29 :: a30 :: a31 :: l) = some (.agg [a0, a1, a2, a3, a4, a5, a6, a7, a8, a9, a10, a11, a12, a13, a14, a15, a16, a17, a18, a19, a20, a21, a22, a23, a24, a25, a26, a27, a28, a29, a30, a31]) := by rw [aGet_many tA137, if_pos (by simp)]; rfl
theorem sto137 (σ : Sto) (v p : AV) : aStore prog σ 137 v p = aStoreN σ 32 v p := aStore_eq (by kernel_rfl) σ v p
theorem tA138 : tAgg prog 138 = some (some 64) := by kernel_rfl
theorem get138 (a0 a1 a2 a3 a4 a5 a6 a7 a8 a9 a10 a11 a12 a13 a14 a15 a16 a17 a18 a19 a20 a21 a22 a23 a24 a25 a26 a27 a28 a29 a30 a31 a32 a33 a34 a35 a36 a37 a38 a39 a40 a41 a42 a43 a44 a45 a46 a47 a48 a49 a50 a51 a52 a53 a54 a55 a56 a57 a58 a59 a60 a61 a62 a63 : AV) (l : List AV) : aGet prog 138 (a0 :: a1 :: a2 :: a3 :: a4 :: a5 :: a6 :: a7 :: a8 :: a9 :: a10 :: a11 :: a12 :: a13 :: a14 :: a15 :: a16 :: a17 :: a18 :: a19 :: a20 :: a21 :: a22 :: a23 :: a24 :: a25 :: a26 :: a27 :: a28 :: a29 :: a30 :: a31 :: a32 :: a33 :: a34 :: a35 :: a36 :: a37 :: a38 :: a39 :: a40 :: a41 :: a42 :: a43 :: a44 :: a45 :: a46 :: a47 :: a48 :: a49 :: a50 :: a51 :: a52 :: a53 :: a54 :: a55 :: a56 :: a57 :: a58 :: a59 :: a60 :: a61 :: a62 :: a63 :: l) = some (.agg [a0, a1, a2, a3, a4, a5, a6, a7, a8, a9, a10, a11, a12, a13, a14, a15, a16, a17, a18, a19, a20, a21, a22, a23, a24, a25, a26, a27, a28, a29, a30, a31, a32, a33, a34, a35, a36, a37, a38, a39, a40, a41, a42, a43, a44, a45, a46, a47, a48, a49, a50, a51, a52, a53, a54, a55, a56, a57, a58, a59, a60, a61, a62, a63]) := by rw [aGet_many tA138, if_pos (by simp)]; rfl
theorem sto138 (σ : Sto) (v p : AV) : aStore prog σ 138 v p = aStoreN σ 64 v p := aStore_eq (by kernel_rfl) σ v p
theorem cvt2_5 (k : IntKind) (n : Int) (σ : Sto) : aConv prog σ 2 5 (.val (.int k n)) = some (.val (.int .u8 (IntKind.wrap .u8 n)), σ) := aConv_int (ks := .i64) (by kernel_rfl) (by kernel_rfl) k n σ
theorem cvt2_117 (k : IntKind) (n : Int) (σ : Sto) : aConv prog σ 2 117 (.val (.int k n)) = some (.val (.int .u64 (IntKind.wrap .u64 n)), σ) := aConv_int (ks := .i64) (by kernel_rfl) (by kernel_rfl) k n σ
theorem cvt3_117 (k : IntKind) (n : Int) (σ : Sto) : aConv prog σ 3 117 (.val (.int k n)) = some (.val (.int .u64 (IntKind.wrap .u64 n)), σ) := aConv_int (ks := .i64) (by kernel_rfl) (by kernel_rfl) k n σ
theorem cvt3_134 (k : IntKind) (n : Int) (σ : Sto) : aConv prog σ 3 134 (.val (.int k n)) = some (.val (.int .u64 (IntKind.wrap .u64 n)), σ) := aConv_int (ks := .i64) (by kernel_rfl) (by kernel_rfl) k n σ
theorem cvt5_3 (k : IntKind) (n : Int) (σ : Sto) : aConv prog σ 5 3 (.val (.int k n)) = some (.val (.int .i64 (IntKind.wrap .i64 n)), σ) := aConv_int (ks := .u8) (by kernel_rfl) (by kernel_rfl) k n σ
theorem cvt117_5 (k : IntKind) (n : Int) (σ : Sto) : aConv prog σ 117 5 (.val (.int k n)) = some (.val (.int .u8 (IntKind.wrap .u8 n)), σ) := aConv_int (ks := .u64) (by kernel_rfl) (by kernel_rfl) k n σ
theorem cvt117_131 (k : IntKind) (n : Int) (σ : Sto) : aConv prog σ 117 131 (.val (.int k n)) = some (.val (.int .u32 (IntKind.wrap .u32 n)), σ) := aConv_int (ks := .u64) (by kernel_rfl) (by kernel_rfl) k n σ
theorem cvt131_5 (k : IntKind) (n : Int) (σ : Sto) : aConv prog σ 131 5 (.val (.int k n)) = some (.val (.int .u8 (IntKind.wrap .u8 n)), σ) := aConv_int (ks := .u32) (by kernel_rfl) (by kernel_rfl) k n σ
theorem cvt134_131 (k : IntKind) (n : Int) (σ : Sto) : aConv prog σ 134 131 (.val (.int k n)) = some (.val (.int .u32 (IntKind.wrap .u32 n)), σ) := aConv_int (ks := .u64) (by kernel_rfl) (by kernel_rfl) k n σ
theorem cvb9_55 (σ : Sto) (x : ByteArray) (hx : x.size ≤ 4611686018427387904) : aConv prog σ 9 55 (.val (.string x)) = some (rowAV 1 false (x.data.toList.map byteAV), σ) := by rw [row_false]; exact aConv_toB (by kernel_rfl) (by kernel_rfl) σ x hx
theorem en3 : Enters prog 3 := enters_of func3 (by kernel_rfl) rfl
theorem en4 : Enters prog 4 := enters_of func4 (by kernel_rfl) rfl
theorem en5 : Enters prog 5 := enters_of func5 (by kernel_rfl) rfl
theorem en6 : Enters prog 6 := enters_of func6 (by kernel_rfl) rfl
theorem en7 : Enters prog 7 := enters_of func7 (by kernel_rfl) rfl
theorem en8 : Enters prog 8 := enters_of func8 (by kernel_rfl) rfl
theorem en9 : Enters prog 9 := enters_of func9 (by kernel_rfl) rfl
theorem en10 : Enters prog 10 := enters_of func10 (by kernel_rfl) rfl
theorem en11 : Enters prog 11 := enters_of func11 (by kernel_rfl) rfl
theorem en12 : Enters prog 12 := enters_of func12 (by kernel_rfl) rfl
theorem en13 : Enters prog 13 := enters_of func13 (by kernel_rfl) rfl
theorem en14 : Enters prog 14 := enters_of func14 (by kernel_rfl) rfl
theorem en15 : Enters prog 15 := enters_of func15 (by kernel_rfl) rfl
theorem en16 : Enters prog 16 := enters_of func16 (by kernel_rfl) rfl
theorem en17 : Enters prog 17 := enters_of func17 (by kernel_rfl) rfl
theorem en18 : Enters prog 18 := enters_of func18 (by kernel_rfl) rfl
theorem en19 : Enters prog 19 := enters_of func19 (by kernel_rfl) rfl
theorem en20 : Enters prog 20 := enters_of func20 (by kernel_rfl) rfl
theorem en21 : Enters prog 21 := enters_of func21 (by kernel_rfl) rfl
theorem en22 : Enters prog 22 := enters_of func22 (by kernel_rfl) rfl
theorem en23 : Enters prog 23 := enters_of func23 (by kernel_rfl) rfl
theorem en24 : Enters prog 24 := enters_of func24 (by kernel_rfl) rfl
theorem en25 : Enters prog 25 := enters_of func25 (by kernel_rfl) rfl
theorem en26 : Enters prog 26 := enters_of func26 (by kernel_rfl) rfl
theorem en27 : Enters prog 27 := enters_of func27 (by kernel_rfl) rfl
theorem en28 : Enters prog 28 := enters_of func28 (by kernel_rfl) rfl
theorem en29 : Enters prog 29 := enters_of func29 (by kernel_rfl) rfl
theorem en30 : Enters prog 30 := enters_of func30 (by kernel_rfl) rfl
theorem en31 : Enters prog 31 := enters_of func31 (by kernel_rfl) rfl
theorem en32 : Enters prog 32 := enters_of func32 (by kernel_rfl) rfl
theorem en33 : Enters prog 33 := enters_of func33 (by kernel_rfl) rfl
theorem en34 : Enters prog 34 := enters_of func34 (by kernel_rfl) rfl
theorem en35 : Enters prog 35 := enters_of func35 (by kernel_rfl) rfl
theorem en36 : Enters prog 36 := enters_of func36 (by kernel_rfl) rfl
theorem en37 : Enters prog 37 := enters_of func37 (by kernel_rfl) rfl
theorem en38 : Enters prog 38 := enters_of func38 (by kernel_rfl) rfl
theorem en39 : Enters prog 39 := enters_of func39 (by kernel_rfl) rfl
theorem en40 : Enters prog 40 := enters_of func40 (by kernel_rfl) rfl
theorem en41 : Enters prog 41 := enters_of func41 (by kernel_rfl) rfl
theorem en42 : Enters prog 42 := enters_of func42 (by kernel_rfl) rfl
theorem en43 : Enters prog 43 := enters_of func43 (by kernel_rfl) rfl
theorem en44 : Enters prog 44 := enters_of func44 (by kernel_rfl) rfl
theorem en45 : Enters prog 45 := enters_of func45 (by kernel_rfl) rfl
theorem en46 : Enters prog 46 := enters_of func46 (by kernel_rfl) rfl
theorem en47 : Enters prog 47 := enters_of func47 (by kernel_rfl) rfl
theorem en48 : Enters prog 48 := enters_of func48 (by kernel_rfl) rfl
theorem en49 : Enters prog 49 := enters_of func49 (by kernel_rfl) rfl
theorem en50 : Enters prog 50 := enters_of func50 (by kernel_rfl) rfl
theorem en51 : Enters prog 51 := enters_of func51 (by kernel_rfl) rfl
theorem en52 : Enters prog 52 := enters_of func52 (by kernel_rfl) rfl
theorem en53 : Enters prog 53 := enters_of func53 (by kernel_rfl) rfl
theorem en54 : Enters prog 54 := enters_of func54 (by kernel_rfl) rfl
theorem en55 : Enters prog 55 := enters_of func55 (by kernel_rfl) rfl
theorem en56 : Enters prog 56 := enters_of func56 (by kernel_rfl) rfl
theorem en57 : Enters prog 57 := enters_of func57 (by kernel_rfl) rfl
theorem en58 : Enters prog 58 := enters_of func58 (by kernel_rfl) rfl
theorem en59 : Enters prog 59 := enters_of func59 (by kernel_rfl) rfl
theorem en60 : Enters prog 60 := enters_of func60 (by kernel_rfl) rfl
theorem en61 : Enters prog 61 := enters_of func61 (by kernel_rfl) rfl
theorem en62 : Enters prog 62 := enters_of func62 (by kernel_rfl) rfl
theorem en63 : Enters prog 63 := enters_of func63 (by kernel_rfl) rfl
theorem en64 : Enters prog 64 := enters_of func64 (by kernel_rfl) rfl
theorem en65 : Enters prog 65 := enters_of func65 (by kernel_rfl) rfl
theorem en66 : Enters prog 66 := enters_of func66 (by kernel_rfl) rfl
theorem en67 : Enters prog 67 := enters_of func67 (by kernel_rfl) rfl
theorem en68 : Enters prog 68 := enters_of func68 (by kernel_rfl) rfl
theorem en69 : Enters prog 69 := enters_of func69 (by kernel_rfl) rfl
theorem en70 : Enters prog 70 := enters_of func70 (by kernel_rfl) rfl
theorem en71 : Enters prog 71 := enters_of func71 (by kernel_rfl) rfl
theorem en72 : Enters prog 72 := enters_of func72 (by kernel_rfl) rfl
theorem en73 : Enters prog 73 := enters_of func73 (by kernel_rfl) rfl
theorem en74 : Enters prog 74 := enters_of func74 (by kernel_rfl) rfl
theorem en75 : Enters prog 75 := enters_of func75 (by kernel_rfl) rfl
theorem en76 : Enters prog 76 := enters_of func76 (by kernel_rfl) rfl
theorem en77 : Enters prog 77 := enters_of func77 (by kernel_rfl) rfl
theorem en78 : Enters prog 78 := enters_of func78 (by kernel_rfl) rfl
theorem en81 : Enters prog 81 := enters_of func81 (by kernel_rfl) rfl
theorem en82 : Enters prog 82 := enters_of func82 (by kernel_rfl) rfl
theorem en83 : Enters prog 83 := enters_of func83 (by kernel_rfl) rfl
theorem en84 : Enters prog 84 := enters_of func84 (by kernel_rfl) rfl
theorem en85 : Enters prog 85 := enters_of func85 (by kernel_rfl) rfl
theorem en86 : Enters prog 86 := enters_of func86 (by kernel_rfl) rfl
theorem en87 : Enters prog 87 := enters_of func87 (by kernel_rfl) rfl
theorem mixed : prog.follows .mixedOrders = true := by kernel_rfl
attribute [go_sem] get2 zero2 alloc2 sto2 get3 zero3 alloc3 sto3 get4 zero4 alloc4 sto4 tyBool4 get5 zero5 alloc5 sto5 get9 zero9 alloc9 sto9 len9 tyStr9 get22 zero22 alloc22 sto22 len22 idx22 app22 src22 nil22 row1_22 mk22 rowm22 row0_22 get24 fA24_0 fd24_0 bld24 zero24 alloc24 sto24 get25 zero25 alloc25 sto25 len25 idx25 app25 src25 nil25 row1_25 mk25 rowm25 row0_25 get27 fA27_0 fd27_0 fA27_1 fd27_1 fA27_2 fd27_2 fA27_3 fd27_3 fA27_4 fd27_4 bld27 zero27 alloc27 sto27 get30 zero30 alloc30 sto30 get33 zero33 alloc33 sto33 len33 idx33 app33 src33 nil33 row1_33 mk33 rowm33 row0_33 get35 fA35_0 fd35_0 bld35 zero35 alloc35 sto35 get41 zero41 alloc41 sto41 len41 idx41 app41 src41 nil41 row1_41 mk41 rowm41 row0_41 get43 fA43_0 fd43_0 fA43_1 fd43_1 fA43_2 fd43_2 fA43_3 fd43_3 fA43_4 fd43_4 bld43 zero43 alloc43 sto43 get47 zero47 alloc47 sto47 len47 idx47 app47 src47 nil47 row1_47 mk47 rowm47 row0_47 get48 zero48 alloc48 sto48 len48 idx48 app48 src48 nil48 row1_48 mk48 rowm48 row0_48 get50 fA50_0 fd50_0 fA50_1 fd50_1 fA50_2 fd50_2 fA50_3 fd50_3 fA50_4 fd50_4 bld50 zero50 alloc50 sto50 get51 zero51 alloc51 sto51 len51 idx51 app51 src51 nil51 row1_51 mk51 rowm51 row0_51 get53 fA53_0 fd53_0 fA53_1 fd53_1 bld53 zero53 alloc53 sto53 get54 zero54 alloc54 sto54 ptr54 ptrn54 get55 zero55 alloc55 sto55 len55 idx55 app55 src55 nil55 row1_55 mk55 rowm55 row0_55 get57 fA57_0 fd57_0 fA57_1 fd57_1 bld57 zero57 alloc57 sto57 get59 fA59_0 fd59_0 bld59 zero59 alloc59 sto59 get60 zero60 alloc60 sto60 len60 idx60 app60 src60 nil60 row1_60 mk60 rowm60 row0_60 get61 zero61 alloc61 sto61 len61 idx61 app61 src61 nil61 row1_61 mk61 rowm61 row0_61 get63 fA63_0 fd63_0 fA63_1 fd63_1 fA63_2 fd63_2 fA63_3 fd63_3 fA63_4 fd63_4 bld63 zero63 alloc63 sto63 get68 fA68_0 fd68_0 fA68_1 fd68_1 bld68 zero68 alloc68 sto68 get78 zero78 alloc78 sto78 get79 zero79 alloc79 sto79 ptr79 ptrn79 get83 zero83 alloc83 sto83 ptr83 ptrn83 get85 fA85_0 fd85_0 fA85_1 fd85_1 bld85 zero85 alloc85 sto85 get86 fA86_0 fd86_0 fA86_1 fd86_1 bld86 zero86 alloc86 sto86 get87 zero87 alloc87 sto87 get89 zero89 alloc89 sto89 len89 idx89 app89 src89 nil89 row1_89 mk89 rowm89 row0_89 get99 zero99 alloc99 sto99 get106 zero106 alloc106 sto106 get109 fA109_0 fd109_0 fA109_1 fd109_1 bld109 zero109 alloc109 sto109 get110 zero110 alloc110 sto110 len110 idx110 app110 src110 nil110 row1_110 mk110 rowm110 row0_110 get111 zero111 alloc111 sto111 get116 sto116 get117 zero117 alloc117 sto117 get124 zero124 alloc124 sto124 get126 zero126 alloc126 sto126 get130 sto130 get131 zero131 alloc131 sto131 get132 sto132 get134 zero134 alloc134 sto134 get137 sto137 get138 sto138 cvt2_5 cvt2_117 cvt3_117 cvt3_134 cvt5_3 cvt117_5 cvt117_131 cvt131_5 cvt134_131
end Go.Proofs.Tryd

