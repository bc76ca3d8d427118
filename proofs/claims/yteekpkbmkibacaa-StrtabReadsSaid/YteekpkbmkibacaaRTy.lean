import Derived.Test.YteekpkbmkibacaaREvF
import Derived.Test.YteekpkbmkibacaaProg
/-! What is known of types. -/
namespace Go.Proofs.Try
set_option linter.unusedSimpArgs false
set_option linter.unusedVariables false
open Go Go.Proofs.Ev
theorem tO3 : tAgg prog 3 = some none := by kernel_rfl
theorem get3 (c : AV) (cs : List AV) : aGet prog 3 (c :: cs) = some c := by rw [aGet_one tO3]; rfl
theorem zero3 : aZero prog 3 = some (.val (.int .i64 0)) := by kernel_rfl
theorem alloc3 (σ : Sto) : aAlloc prog σ 3 = aNewVar σ (.val (.int .i64 0)) := alloc_eq (by kernel_rfl) σ
theorem sto3 (σ : Sto) (v p : AV) : aStore prog σ 3 v p = aStoreN σ 1 v p := aStore_eq (by kernel_rfl) σ v p
theorem tO4 : tAgg prog 4 = some none := by kernel_rfl
theorem get4 (c : AV) (cs : List AV) : aGet prog 4 (c :: cs) = some c := by rw [aGet_one tO4]; rfl
theorem zero4 : aZero prog 4 = some (.val (.bool false)) := by kernel_rfl
theorem alloc4 (σ : Sto) : aAlloc prog σ 4 = aNewVar σ (.val (.bool false)) := alloc_eq (by kernel_rfl) σ
theorem sto4 (σ : Sto) (v p : AV) : aStore prog σ 4 v p = aStoreN σ 1 v p := aStore_eq (by kernel_rfl) σ v p
theorem tyBool4 : tyBool prog 4 = true := by kernel_rfl
theorem tO5 : tAgg prog 5 = some none := by kernel_rfl
theorem get5 (c : AV) (cs : List AV) : aGet prog 5 (c :: cs) = some c := by rw [aGet_one tO5]; rfl
theorem zero5 : aZero prog 5 = some (.val (.int .u8 0)) := by kernel_rfl
theorem alloc5 (σ : Sto) : aAlloc prog σ 5 = aNewVar σ (.val (.int .u8 0)) := alloc_eq (by kernel_rfl) σ
theorem sto5 (σ : Sto) (v p : AV) : aStore prog σ 5 v p = aStoreN σ 1 v p := aStore_eq (by kernel_rfl) σ v p
theorem tO9 : tAgg prog 9 = some none := by kernel_rfl
theorem get9 (c : AV) (cs : List AV) : aGet prog 9 (c :: cs) = some c := by rw [aGet_one tO9]; rfl
theorem zero9 : aZero prog 9 = some (.val (.string ⟨#[]⟩)) := by kernel_rfl
theorem alloc9 (σ : Sto) : aAlloc prog σ 9 = aNewVar σ (.val (.string ⟨#[]⟩)) := alloc_eq (by kernel_rfl) σ
theorem sto9 (σ : Sto) (v p : AV) : aStore prog σ 9 v p = aStoreN σ 1 v p := aStore_eq (by kernel_rfl) σ v p
theorem len9 (σ : Sto) (x : AV) : aLen prog σ 9 x = aLenStr x := aLen_str (by kernel_rfl) σ x
theorem tyStr9 : tyStr prog 9 = true := by kernel_rfl
theorem tO22 : tAgg prog 22 = some none := by kernel_rfl
theorem get22 (c : AV) (cs : List AV) : aGet prog 22 (c :: cs) = some c := by rw [aGet_one tO22]; rfl
theorem zero22 : aZero prog 22 = some (.nilsl) := by kernel_rfl
theorem alloc22 (σ : Sto) : aAlloc prog σ 22 = aNewVar σ (.nilsl) := alloc_eq (by kernel_rfl) σ
theorem sto22 (σ : Sto) (v p : AV) : aStore prog σ 22 v p = aStoreN σ 1 v p := aStore_eq (by kernel_rfl) σ v p
theorem len22 (σ : Sto) (x : AV) : aLen prog σ 22 x = aLenSl x := aLen_sl (by kernel_rfl) σ x
theorem idx22 (x i : AV) : aIndexAddr prog 22 x i = aAt 1 x i := aIndexAddr_eq (by kernel_rfl) x i
theorem app22 (σ : Sto) (u : TypeId) (nl : Bool) (es : List AV) (k : Nat) (x : AV) : aAppendO prog σ 22 u nl 1 es k x = (aSrcE prog u 1 x).bind fun ds => appAt σ nl 1 16 es k ds σ[k]? := aAppendO_eq (by kernel_rfl) σ nl es k x
theorem src22 (x : AV) : aSrcE prog 22 1 x = aSrcS 1 x := aSrcE_sl (by kernel_rfl) 1 x
theorem nil22 (σ : Sto) (u : TypeId) (y : AV) : aApp prog false σ 22 u .nilsl y = aAppendO prog (σ ++ [.cap 0 1]) 22 u true 1 [] σ.length y := aApp_nil (by kernel_rfl) (by decide) σ u y
theorem row22 {len : Nat} {parts : List (Nat × AV)} (hl : len * 1 ≤ 16777216) (hp : 0 < len) (hi : parts.map (·.1) = List.range len) (hv : ∀ p ∈ parts, p.2.cells.length = 1 ∧ p.2.cells.all AV.one = true) : aBuildRow prog 22 len parts = some (.sl 1 (parts.map (·.2))) := aBuildRow_eq (by kernel_rfl) hl hp hi hv
theorem row1_22 (σ : Sto) (v : AV) (h1 : v.cells.length = 1) (h2 : v.cells.all AV.one = true) : aRow prog false σ 22 1 [(0, v)] = some (.sl 1 [v], σ) := aRow_sl (by kernel_rfl) (by decide) (row22 (len := 1) (parts := [(0, v)]) (by decide) (by decide) rfl (by intro p hp; simp only [List.mem_singleton] at hp; subst hp; exact ⟨h1, h2⟩)) σ
theorem tM22 : tMk prog 22 = some ([.val (.string ⟨#[]⟩)], 1, 16) := by kernel_rfl
theorem mk22 (σ : Sto) (k k1 : IntKind) (n : Int) : aMakeSlice prog σ 22 (.val (.int k n)) (.val (.int k1 n)) = if 0 ≤ n ∧ fits n.toNat 16 = true then some (.osl σ.length 0 n.toNat 1, σ ++ [.cells (aZeros [.val (.string ⟨#[]⟩)] (n.toNat * 1))]) else none := aMakeSlice_eq tM22 σ k k1 n
theorem rowm22 (σ : Sto) (v : AV) (h0 : v.cells.length = 1) (h1 : v.cells.all AV.one = true) : aRow prog true σ 22 1 [(0, v)] = some (.osl σ.length 0 1 1, σ ++ [.cells v.cells]) := aRow_live tM22 (by decide) σ v h0 h1
theorem row0_22 (σ : Sto) : aRow prog false σ 22 0 [] = some (.slo false 1 [] σ.length, σ ++ [.cap 0 1]) := aRow_zero (by kernel_rfl) (by decide) σ
theorem tO23 : tAgg prog 23 = some none := by kernel_rfl
theorem get23 (c : AV) (cs : List AV) : aGet prog 23 (c :: cs) = some c := by rw [aGet_one tO23]; rfl
theorem zero23 : aZero prog 23 = some (.val (.pointer none)) := by kernel_rfl
theorem alloc23 (σ : Sto) : aAlloc prog σ 23 = aNewVar σ (.val (.pointer none)) := alloc_eq (by kernel_rfl) σ
theorem sto23 (σ : Sto) (v p : AV) : aStore prog σ 23 v p = aStoreN σ 1 v p := aStore_eq (by kernel_rfl) σ v p
theorem ptr23 (o off : Nat) : aBin prog .eql 23 (.ref o off) (.val (.pointer none)) = some (.val (.bool false)) := bin_ptr (by kernel_rfl) o off
theorem ptrn23 (o off : Nat) : aBin prog .neq 23 (.ref o off) (.val (.pointer none)) = some (.val (.bool true)) := bin_ptrn (by kernel_rfl) o off
theorem tO25 : tAgg prog 25 = some none := by kernel_rfl
theorem get25 (c : AV) (cs : List AV) : aGet prog 25 (c :: cs) = some c := by rw [aGet_one tO25]; rfl
theorem zero25 : aZero prog 25 = some (.nilsl) := by kernel_rfl
theorem alloc25 (σ : Sto) : aAlloc prog σ 25 = aNewVar σ (.nilsl) := alloc_eq (by kernel_rfl) σ
theorem sto25 (σ : Sto) (v p : AV) : aStore prog σ 25 v p = aStoreN σ 1 v p := aStore_eq (by kernel_rfl) σ v p
theorem len25 (σ : Sto) (x : AV) : aLen prog σ 25 x = aLenSl x := aLen_sl (by kernel_rfl) σ x
theorem idx25 (x i : AV) : aIndexAddr prog 25 x i = aAt 1 x i := aIndexAddr_eq (by kernel_rfl) x i
theorem app25 (σ : Sto) (u : TypeId) (nl : Bool) (es : List AV) (k : Nat) (x : AV) : aAppendO prog σ 25 u nl 1 es k x = (aSrcE prog u 1 x).bind fun ds => appAt σ nl 1 1 es k ds σ[k]? := aAppendO_eq (by kernel_rfl) σ nl es k x
theorem src25 (x : AV) : aSrcE prog 25 1 x = aSrcS 1 x := aSrcE_sl (by kernel_rfl) 1 x
theorem nil25 (σ : Sto) (u : TypeId) (y : AV) : aApp prog false σ 25 u .nilsl y = aAppendO prog (σ ++ [.cap 0 1]) 25 u true 1 [] σ.length y := aApp_nil (by kernel_rfl) (by decide) σ u y
theorem row25 {len : Nat} {parts : List (Nat × AV)} (hl : len * 1 ≤ 16777216) (hp : 0 < len) (hi : parts.map (·.1) = List.range len) (hv : ∀ p ∈ parts, p.2.cells.length = 1 ∧ p.2.cells.all AV.one = true) : aBuildRow prog 25 len parts = some (.sl 1 (parts.map (·.2))) := aBuildRow_eq (by kernel_rfl) hl hp hi hv
theorem row1_25 (σ : Sto) (v : AV) (h1 : v.cells.length = 1) (h2 : v.cells.all AV.one = true) : aRow prog false σ 25 1 [(0, v)] = some (.slf 1 [v], σ) := aRow_slf (by kernel_rfl) (by decide) (row25 (len := 1) (parts := [(0, v)]) (by decide) (by decide) rfl (by intro p hp; simp only [List.mem_singleton] at hp; subst hp; exact ⟨h1, h2⟩)) σ
theorem tM25 : tMk prog 25 = some ([.val (.int .u8 0)], 1, 1) := by kernel_rfl
theorem mk25 (σ : Sto) (k k1 : IntKind) (n : Int) : aMakeSlice prog σ 25 (.val (.int k n)) (.val (.int k1 n)) = if 0 ≤ n ∧ fits n.toNat 1 = true then some (.osl σ.length 0 n.toNat 1, σ ++ [.cells (aZeros [.val (.int .u8 0)] (n.toNat * 1))]) else none := aMakeSlice_eq tM25 σ k k1 n
theorem rowm25 (σ : Sto) (v : AV) (h0 : v.cells.length = 1) (h1 : v.cells.all AV.one = true) : aRow prog true σ 25 1 [(0, v)] = some (.osl σ.length 0 1 1, σ ++ [.cells v.cells]) := aRow_live tM25 (by decide) σ v h0 h1
theorem row0_25 (σ : Sto) : aRow prog false σ 25 0 [] = some (.slo false 1 [] σ.length, σ ++ [.cap 0 1]) := aRow_zero (by kernel_rfl) (by decide) σ
theorem tO26 : tAgg prog 26 = some none := by kernel_rfl
theorem get26 (c : AV) (cs : List AV) : aGet prog 26 (c :: cs) = some c := by rw [aGet_one tO26]; rfl
theorem zero26 : aZero prog 26 = some (.val (.int .i64 0)) := by kernel_rfl
theorem alloc26 (σ : Sto) : aAlloc prog σ 26 = aNewVar σ (.val (.int .i64 0)) := alloc_eq (by kernel_rfl) σ
theorem sto26 (σ : Sto) (v p : AV) : aStore prog σ 26 v p = aStoreN σ 1 v p := aStore_eq (by kernel_rfl) σ v p
theorem tO39 : tAgg prog 39 = some none := by kernel_rfl
theorem get39 (c : AV) (cs : List AV) : aGet prog 39 (c :: cs) = some c := by rw [aGet_one tO39]; rfl
theorem zero39 : aZero prog 39 = some (.val (.pointer none)) := by kernel_rfl
theorem alloc39 (σ : Sto) : aAlloc prog σ 39 = aNewVar σ (.val (.pointer none)) := alloc_eq (by kernel_rfl) σ
theorem sto39 (σ : Sto) (v p : AV) : aStore prog σ 39 v p = aStoreN σ 1 v p := aStore_eq (by kernel_rfl) σ v p
theorem ptr39 (o off : Nat) : aBin prog .eql 39 (.ref o off) (.val (.pointer none)) = some (.val (.bool false)) := bin_ptr (by kernel_rfl) o off
theorem ptrn39 (o off : Nat) : aBin prog .neq 39 (.ref o off) (.val (.pointer none)) = some (.val (.bool true)) := bin_ptrn (by kernel_rfl) o off
theorem tO41 : tAgg prog 41 = some none := by kernel_rfl
theorem get41 (c : AV) (cs : List AV) : aGet prog 41 (c :: cs) = some c := by rw [aGet_one tO41]; rfl
theorem zero41 : aZero prog 41 = some (.val (.pointer none)) := by kernel_rfl
theorem alloc41 (σ : Sto) : aAlloc prog σ 41 = aNewVar σ (.val (.pointer none)) := alloc_eq (by kernel_rfl) σ
theorem sto41 (σ : Sto) (v p : AV) : aStore prog σ 41 v p = aStoreN σ 1 v p := aStore_eq (by kernel_rfl) σ v p
theorem ptr41 (o off : Nat) : aBin prog .eql 41 (.ref o off) (.val (.pointer none)) = some (.val (.bool false)) := bin_ptr (by kernel_rfl) o off
theorem ptrn41 (o off : Nat) : aBin prog .neq 41 (.ref o off) (.val (.pointer none)) = some (.val (.bool true)) := bin_ptrn (by kernel_rfl) o off
theorem tA43 : tAgg prog 43 = some (some 2) := by kernel_rfl
theorem get43 (a0 a1 : AV) (l : List AV) : aGet prog 43 (a0 :: a1 :: l) = some (.agg [a0, a1]) := by rw [aGet_many tA43, if_pos (by simp)]; rfl
theorem fA43_0 (p : AV) : aFieldAddr prog 43 0 p = aOff 0 p := aFieldAddr_eq (t := 9) (by kernel_rfl) p
theorem fd43_0 (cs : List AV) : aField prog 43 0 (.agg cs) = cs[0]? := aField_eq (t := 9) (r := none) (by kernel_rfl) (by kernel_rfl) cs
theorem fA43_1 (p : AV) : aFieldAddr prog 43 1 p = aOff 1 p := aFieldAddr_eq (t := 3) (by kernel_rfl) p
theorem fd43_1 (cs : List AV) : aField prog 43 1 (.agg cs) = cs[1]? := aField_eq (t := 3) (r := none) (by kernel_rfl) (by kernel_rfl) cs
theorem bld43 (parts : List (Nat × AV)) : aBuild prog 43 parts = (aFill (fun j => [(0, 1), (1, 1)][j]?) [.val (.string ⟨#[]⟩), .val (.int .i64 0)] parts).map .agg := aBuild_eq (by kernel_rfl) parts
theorem zero43 : aZero prog 43 = some (.agg [.val (.string ⟨#[]⟩), .val (.int .i64 0)]) := by kernel_rfl
theorem alloc43 (σ : Sto) : aAlloc prog σ 43 = aNewVar σ (.agg [.val (.string ⟨#[]⟩), .val (.int .i64 0)]) := alloc_eq (by kernel_rfl) σ
theorem sto43 (σ : Sto) (v p : AV) : aStore prog σ 43 v p = aStoreN σ 2 v p := aStore_eq (by kernel_rfl) σ v p
theorem tO49 : tAgg prog 49 = some none := by kernel_rfl
theorem get49 (c : AV) (cs : List AV) : aGet prog 49 (c :: cs) = some c := by rw [aGet_one tO49]; rfl
theorem zero49 : aZero prog 49 = some (.val (.map none)) := by kernel_rfl
theorem alloc49 (σ : Sto) : aAlloc prog σ 49 = aNewVar σ (.val (.map none)) := alloc_eq (by kernel_rfl) σ
theorem sto49 (σ : Sto) (v p : AV) : aStore prog σ 49 v p = aStoreN σ 1 v p := aStore_eq (by kernel_rfl) σ v p
theorem tA51 : tAgg prog 51 = some (some 2) := by kernel_rfl
theorem get51 (a0 a1 : AV) (l : List AV) : aGet prog 51 (a0 :: a1 :: l) = some (.agg [a0, a1]) := by rw [aGet_many tA51, if_pos (by simp)]; rfl
theorem fA51_0 (p : AV) : aFieldAddr prog 51 0 p = aOff 0 p := aFieldAddr_eq (t := 22) (by kernel_rfl) p
theorem fd51_0 (cs : List AV) : aField prog 51 0 (.agg cs) = cs[0]? := aField_eq (t := 22) (r := none) (by kernel_rfl) (by kernel_rfl) cs
theorem fA51_1 (p : AV) : aFieldAddr prog 51 1 p = aOff 1 p := aFieldAddr_eq (t := 49) (by kernel_rfl) p
theorem fd51_1 (cs : List AV) : aField prog 51 1 (.agg cs) = cs[1]? := aField_eq (t := 49) (r := none) (by kernel_rfl) (by kernel_rfl) cs
theorem bld51 (parts : List (Nat × AV)) : aBuild prog 51 parts = (aFill (fun j => [(0, 1), (1, 1)][j]?) [.nilsl, .val (.map none)] parts).map .agg := aBuild_eq (by kernel_rfl) parts
theorem zero51 : aZero prog 51 = some (.agg [.nilsl, .val (.map none)]) := by kernel_rfl
theorem alloc51 (σ : Sto) : aAlloc prog σ 51 = aNewVar σ (.agg [.nilsl, .val (.map none)]) := alloc_eq (by kernel_rfl) σ
theorem sto51 (σ : Sto) (v p : AV) : aStore prog σ 51 v p = aStoreN σ 2 v p := aStore_eq (by kernel_rfl) σ v p
theorem tO56 : tAgg prog 56 = some none := by kernel_rfl
theorem get56 (c : AV) (cs : List AV) : aGet prog 56 (c :: cs) = some c := by rw [aGet_one tO56]; rfl
theorem zero56 : aZero prog 56 = some (.val (.int .u64 0)) := by kernel_rfl
theorem alloc56 (σ : Sto) : aAlloc prog σ 56 = aNewVar σ (.val (.int .u64 0)) := alloc_eq (by kernel_rfl) σ
theorem sto56 (σ : Sto) (v p : AV) : aStore prog σ 56 v p = aStoreN σ 1 v p := aStore_eq (by kernel_rfl) σ v p
theorem tA61 : tAgg prog 61 = some (some 2) := by kernel_rfl
theorem get61 (a0 a1 : AV) (l : List AV) : aGet prog 61 (a0 :: a1 :: l) = some (.agg [a0, a1]) := by rw [aGet_many tA61, if_pos (by simp)]; rfl
theorem fA61_0 (p : AV) : aFieldAddr prog 61 0 p = aOff 0 p := aFieldAddr_eq (t := 25) (by kernel_rfl) p
theorem fd61_0 (cs : List AV) : aField prog 61 0 (.agg cs) = cs[0]? := aField_eq (t := 25) (r := none) (by kernel_rfl) (by kernel_rfl) cs
theorem fA61_1 (p : AV) : aFieldAddr prog 61 1 p = aOff 1 p := aFieldAddr_eq (t := 26) (by kernel_rfl) p
theorem fd61_1 (cs : List AV) : aField prog 61 1 (.agg cs) = cs[1]? := aField_eq (t := 26) (r := none) (by kernel_rfl) (by kernel_rfl) cs
theorem bld61 (parts : List (Nat × AV)) : aBuild prog 61 parts = (aFill (fun j => [(0, 1), (1, 1)][j]?) [.nilsl, .val (.int .i64 0)] parts).map .agg := aBuild_eq (by kernel_rfl) parts
theorem zero61 : aZero prog 61 = some (.agg [.nilsl, .val (.int .i64 0)]) := by kernel_rfl
theorem alloc61 (σ : Sto) : aAlloc prog σ 61 = aNewVar σ (.agg [.nilsl, .val (.int .i64 0)]) := alloc_eq (by kernel_rfl) σ
theorem sto61 (σ : Sto) (v p : AV) : aStore prog σ 61 v p = aStoreN σ 2 v p := aStore_eq (by kernel_rfl) σ v p
theorem cvt3_56 (k : IntKind) (n : Int) (σ : Sto) : aConv prog σ 3 56 (.val (.int k n)) = some (.val (.int .u64 (IntKind.wrap .u64 n)), σ) := aConv_int (ks := .i64) (by kernel_rfl) (by kernel_rfl) k n σ
theorem cvt5_56 (k : IntKind) (n : Int) (σ : Sto) : aConv prog σ 5 56 (.val (.int k n)) = some (.val (.int .u64 (IntKind.wrap .u64 n)), σ) := aConv_int (ks := .u8) (by kernel_rfl) (by kernel_rfl) k n σ
theorem cvt56_5 (k : IntKind) (n : Int) (σ : Sto) : aConv prog σ 56 5 (.val (.int k n)) = some (.val (.int .u8 (IntKind.wrap .u8 n)), σ) := aConv_int (ks := .u64) (by kernel_rfl) (by kernel_rfl) k n σ
theorem en4 : Enters prog 4 := enters_of func4 (by kernel_rfl) rfl
theorem en5 : Enters prog 5 := enters_of func5 (by kernel_rfl) rfl
theorem en6 : Enters prog 6 := enters_of func6 (by kernel_rfl) rfl
theorem en7 : Enters prog 7 := enters_of func7 (by kernel_rfl) rfl
theorem en8 : Enters prog 8 := enters_of func8 (by kernel_rfl) rfl
theorem en10 : Enters prog 10 := enters_of func10 (by kernel_rfl) rfl
theorem en11 : Enters prog 11 := enters_of func11 (by kernel_rfl) rfl
theorem en12 : Enters prog 12 := enters_of func12 (by kernel_rfl) rfl
theorem en13 : Enters prog 13 := enters_of func13 (by kernel_rfl) rfl
theorem en14 : Enters prog 14 := enters_of func14 (by kernel_rfl) rfl
theorem en15 : Enters prog 15 := enters_of func15 (by kernel_rfl) rfl
theorem en16 : Enters prog 16 := enters_of func16 (by kernel_rfl) rfl
theorem en17 : Enters prog 17 := enters_of func17 (by kernel_rfl) rfl
theorem en18 : Enters prog 18 := enters_of func18 (by kernel_rfl) rfl
theorem en19 : Enters prog 19 := enters_of func19 (by kernel_rfl) rfl
theorem en20 : Enters prog 20 := enters_of func20 (by kernel_rfl) rfl
theorem en21 : Enters prog 21 := enters_of func21 (by kernel_rfl) rfl
theorem en22 : Enters prog 22 := enters_of func22 (by kernel_rfl) rfl
theorem en23 : Enters prog 23 := enters_of func23 (by kernel_rfl) rfl
theorem en24 : Enters prog 24 := enters_of func24 (by kernel_rfl) rfl
theorem en25 : Enters prog 25 := enters_of func25 (by kernel_rfl) rfl
theorem en26 : Enters prog 26 := enters_of func26 (by kernel_rfl) rfl
theorem en27 : Enters prog 27 := enters_of func27 (by kernel_rfl) rfl
theorem en28 : Enters prog 28 := enters_of func28 (by kernel_rfl) rfl
theorem en29 : Enters prog 29 := enters_of func29 (by kernel_rfl) rfl
theorem en30 : Enters prog 30 := enters_of func30 (by kernel_rfl) rfl
theorem en31 : Enters prog 31 := enters_of func31 (by kernel_rfl) rfl
theorem en32 : Enters prog 32 := enters_of func32 (by kernel_rfl) rfl
theorem en33 : Enters prog 33 := enters_of func33 (by kernel_rfl) rfl
theorem en34 : Enters prog 34 := enters_of func34 (by kernel_rfl) rfl
theorem en35 : Enters prog 35 := enters_of func35 (by kernel_rfl) rfl
theorem mixed : prog.follows .mixedOrders = true := by kernel_rfl
attribute [go_sem] get3 zero3 alloc3 sto3 get4 zero4 alloc4 sto4 tyBool4 get5 zero5 alloc5 sto5 get9 zero9 alloc9 sto9 len9 tyStr9 get22 zero22 alloc22 sto22 len22 idx22 app22 src22 nil22 row1_22 mk22 rowm22 row0_22 get23 zero23 alloc23 sto23 ptr23 ptrn23 get25 zero25 alloc25 sto25 len25 idx25 app25 src25 nil25 row1_25 mk25 rowm25 row0_25 get26 zero26 alloc26 sto26 get39 zero39 alloc39 sto39 ptr39 ptrn39 get41 zero41 alloc41 sto41 ptr41 ptrn41 get43 fA43_0 fd43_0 fA43_1 fd43_1 bld43 zero43 alloc43 sto43 get49 zero49 alloc49 sto49 get51 fA51_0 fd51_0 fA51_1 fd51_1 bld51 zero51 alloc51 sto51 get56 zero56 alloc56 sto56 get61 fA61_0 fd61_0 fA61_1 fd61_1 bld61 zero61 alloc61 sto61 cvt3_56 cvt5_56 cvt56_5
end Go.Proofs.Try

