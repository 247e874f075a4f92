/- Two memories that are not the same. -/
import Derived.Test.YtpnfdndjaepbbaaBankK
namespace Go.Proofs.Ytpnfdndjaepbbaa
open Go Go.Vse
set_option maxRecDepth 100000
set_option maxHeartbeats 4000000
abbrev zBankN10 (a : MM) (i : Int) : List LV := [LV.agg [sI a.c0, sI a.c1, sI a.c2, sI a.c3, sI a.c4, sI a.c5, sI a.c6], sI i]
abbrev zBankN11 (b : MM) (i : Int) : List LV := [LV.agg [sI b.c0, sI b.c1, sI b.c2, sI b.c3, sI b.c4, sI b.c5, sI b.c6], sI i]
abbrev zBankN12 (a : MM) (i : Int) : List LV := [sI (a.W (2 * i.toNat)), sI (a.W (2 * i.toNat + 1))]
abbrev zBankN13 (b : MM) (i : Int) : List LV := [sI (b.W (2 * i.toNat)), sI (b.W (2 * i.toNat + 1))]
def tBankN10 (a : MM) (b : MM) : List Prop := [a.c0 = a.c0, a.c1 = a.c1, a.c2 = a.c2, a.c3 = a.c3, a.c4 = a.c4, a.c5 = a.c5, a.c6 = a.c6, a.R 0 = a.R 0, a.Q 0 = a.Q 0, nB a.c1.toNat 1 0 = nB a.c1.toNat 1 0, bankS 1 a.W 0 (nB a.c1.toNat 1 0) = bankS 1 a.W 0 (nB a.c1.toNat 1 0), b.c0 = b.c0, b.c1 = b.c1, b.c2 = b.c2, b.c3 = b.c3, b.c4 = b.c4, b.c5 = b.c5, b.c6 = b.c6, b.R 0 = b.R 0, b.Q 0 = b.Q 0, nB b.c1.toNat 1 0 = nB b.c1.toNat 1 0, bankS 1 b.W 0 (nB b.c1.toNat 1 0) = bankS 1 b.W 0 (nB b.c1.toNat 1 0), false = false, a.c0 = a.c0, a.c1 = a.c1, a.c2 = a.c2, a.c3 = a.c3, a.c4 = a.c4, a.c5 = a.c5, a.c6 = a.c6, a.R 0 = a.R 0, a.Q 0 = a.Q 0, nB a.c1.toNat 1 0 = nB a.c1.toNat 1 0, bankS 1 a.W 0 (nB a.c1.toNat 1 0) = bankS 1 a.W 0 (nB a.c1.toNat 1 0)]
theorem tBankN10_ok {a : MM} {b : MM} : AllP (tBankN10 a b) := by
  unfold tBankN10
  repeat' first | exact AllP_nil | refine AllP_cons rfl ?_
def tBankN11 (a : MM) (b : MM) : List Prop := [a.c0 = a.c0, a.c1 = a.c1, a.c2 = a.c2, a.c3 = a.c3, a.c4 = a.c4, a.c5 = a.c5, a.c6 = a.c6, a.R 0 = a.R 0, a.Q 0 = a.Q 0, nB a.c1.toNat 2 0 = nB a.c1.toNat 2 0, a.R 1 = a.R 1, a.Q 1 = a.Q 1, nB a.c1.toNat 2 1 = nB a.c1.toNat 2 1, bankS 2 a.W 0 (nB a.c1.toNat 2 0) = bankS 2 a.W 0 (nB a.c1.toNat 2 0), bankS 2 a.W 1 (nB a.c1.toNat 2 1) = bankS 2 a.W 1 (nB a.c1.toNat 2 1), b.c0 = b.c0, b.c1 = b.c1, b.c2 = b.c2, b.c3 = b.c3, b.c4 = b.c4, b.c5 = b.c5, b.c6 = b.c6, b.R 0 = b.R 0, b.Q 0 = b.Q 0, nB b.c1.toNat 2 0 = nB b.c1.toNat 2 0, b.R 1 = b.R 1, b.Q 1 = b.Q 1, nB b.c1.toNat 2 1 = nB b.c1.toNat 2 1, bankS 2 b.W 0 (nB b.c1.toNat 2 0) = bankS 2 b.W 0 (nB b.c1.toNat 2 0), bankS 2 b.W 1 (nB b.c1.toNat 2 1) = bankS 2 b.W 1 (nB b.c1.toNat 2 1), false = false, a.c0 = a.c0, a.c1 = a.c1, a.c2 = a.c2, a.c3 = a.c3, a.c4 = a.c4, a.c5 = a.c5, a.c6 = a.c6, a.R 0 = a.R 0, a.Q 0 = a.Q 0, nB a.c1.toNat 2 0 = nB a.c1.toNat 2 0, a.R 1 = a.R 1, a.Q 1 = a.Q 1, nB a.c1.toNat 2 1 = nB a.c1.toNat 2 1, bankS 2 a.W 0 (nB a.c1.toNat 2 0) = bankS 2 a.W 0 (nB a.c1.toNat 2 0), bankS 2 a.W 1 (nB a.c1.toNat 2 1) = bankS 2 a.W 1 (nB a.c1.toNat 2 1)]
theorem tBankN11_ok {a : MM} {b : MM} : AllP (tBankN11 a b) := by
  unfold tBankN11
  repeat' first | exact AllP_nil | refine AllP_cons rfl ?_
def tBankN12 (a : MM) (b : MM) : List Prop := [a.c0 = a.c0, a.c1 = a.c1, a.c2 = a.c2, a.c3 = a.c3, a.c4 = a.c4, a.c5 = a.c5, a.c6 = a.c6, a.R 0 = a.R 0, a.Q 0 = a.Q 0, nB a.c1.toNat 3 0 = nB a.c1.toNat 3 0, a.R 1 = a.R 1, a.Q 1 = a.Q 1, nB a.c1.toNat 3 1 = nB a.c1.toNat 3 1, a.R 2 = a.R 2, a.Q 2 = a.Q 2, nB a.c1.toNat 3 2 = nB a.c1.toNat 3 2, bankS 3 a.W 0 (nB a.c1.toNat 3 0) = bankS 3 a.W 0 (nB a.c1.toNat 3 0), bankS 3 a.W 1 (nB a.c1.toNat 3 1) = bankS 3 a.W 1 (nB a.c1.toNat 3 1), bankS 3 a.W 2 (nB a.c1.toNat 3 2) = bankS 3 a.W 2 (nB a.c1.toNat 3 2), b.c0 = b.c0, b.c1 = b.c1, b.c2 = b.c2, b.c3 = b.c3, b.c4 = b.c4, b.c5 = b.c5, b.c6 = b.c6, b.R 0 = b.R 0, b.Q 0 = b.Q 0, nB b.c1.toNat 3 0 = nB b.c1.toNat 3 0, b.R 1 = b.R 1, b.Q 1 = b.Q 1, nB b.c1.toNat 3 1 = nB b.c1.toNat 3 1, b.R 2 = b.R 2, b.Q 2 = b.Q 2, nB b.c1.toNat 3 2 = nB b.c1.toNat 3 2, bankS 3 b.W 0 (nB b.c1.toNat 3 0) = bankS 3 b.W 0 (nB b.c1.toNat 3 0), bankS 3 b.W 1 (nB b.c1.toNat 3 1) = bankS 3 b.W 1 (nB b.c1.toNat 3 1), bankS 3 b.W 2 (nB b.c1.toNat 3 2) = bankS 3 b.W 2 (nB b.c1.toNat 3 2), false = false, a.c0 = a.c0, a.c1 = a.c1, a.c2 = a.c2, a.c3 = a.c3, a.c4 = a.c4, a.c5 = a.c5, a.c6 = a.c6, a.R 0 = a.R 0, a.Q 0 = a.Q 0, nB a.c1.toNat 3 0 = nB a.c1.toNat 3 0, a.R 1 = a.R 1, a.Q 1 = a.Q 1, nB a.c1.toNat 3 1 = nB a.c1.toNat 3 1, a.R 2 = a.R 2, a.Q 2 = a.Q 2, nB a.c1.toNat 3 2 = nB a.c1.toNat 3 2, bankS 3 a.W 0 (nB a.c1.toNat 3 0) = bankS 3 a.W 0 (nB a.c1.toNat 3 0), bankS 3 a.W 1 (nB a.c1.toNat 3 1) = bankS 3 a.W 1 (nB a.c1.toNat 3 1), bankS 3 a.W 2 (nB a.c1.toNat 3 2) = bankS 3 a.W 2 (nB a.c1.toNat 3 2)]
theorem tBankN12_ok {a : MM} {b : MM} : AllP (tBankN12 a b) := by
  unfold tBankN12
  repeat' first | exact AllP_nil | refine AllP_cons rfl ?_
def tBankN13 (a : MM) (b : MM) : List Prop := [a.c0 = a.c0, a.c1 = a.c1, a.c2 = a.c2, a.c3 = a.c3, a.c4 = a.c4, a.c5 = a.c5, a.c6 = a.c6, a.R 0 = a.R 0, a.Q 0 = a.Q 0, nB a.c1.toNat 4 0 = nB a.c1.toNat 4 0, a.R 1 = a.R 1, a.Q 1 = a.Q 1, nB a.c1.toNat 4 1 = nB a.c1.toNat 4 1, a.R 2 = a.R 2, a.Q 2 = a.Q 2, nB a.c1.toNat 4 2 = nB a.c1.toNat 4 2, a.R 3 = a.R 3, a.Q 3 = a.Q 3, nB a.c1.toNat 4 3 = nB a.c1.toNat 4 3, bankS 4 a.W 0 (nB a.c1.toNat 4 0) = bankS 4 a.W 0 (nB a.c1.toNat 4 0), bankS 4 a.W 1 (nB a.c1.toNat 4 1) = bankS 4 a.W 1 (nB a.c1.toNat 4 1), bankS 4 a.W 2 (nB a.c1.toNat 4 2) = bankS 4 a.W 2 (nB a.c1.toNat 4 2), bankS 4 a.W 3 (nB a.c1.toNat 4 3) = bankS 4 a.W 3 (nB a.c1.toNat 4 3), b.c0 = b.c0, b.c1 = b.c1, b.c2 = b.c2, b.c3 = b.c3, b.c4 = b.c4, b.c5 = b.c5, b.c6 = b.c6, b.R 0 = b.R 0, b.Q 0 = b.Q 0, nB b.c1.toNat 4 0 = nB b.c1.toNat 4 0, b.R 1 = b.R 1, b.Q 1 = b.Q 1, nB b.c1.toNat 4 1 = nB b.c1.toNat 4 1, b.R 2 = b.R 2, b.Q 2 = b.Q 2, nB b.c1.toNat 4 2 = nB b.c1.toNat 4 2, b.R 3 = b.R 3, b.Q 3 = b.Q 3, nB b.c1.toNat 4 3 = nB b.c1.toNat 4 3, bankS 4 b.W 0 (nB b.c1.toNat 4 0) = bankS 4 b.W 0 (nB b.c1.toNat 4 0), bankS 4 b.W 1 (nB b.c1.toNat 4 1) = bankS 4 b.W 1 (nB b.c1.toNat 4 1), bankS 4 b.W 2 (nB b.c1.toNat 4 2) = bankS 4 b.W 2 (nB b.c1.toNat 4 2), bankS 4 b.W 3 (nB b.c1.toNat 4 3) = bankS 4 b.W 3 (nB b.c1.toNat 4 3), false = false, a.c0 = a.c0, a.c1 = a.c1, a.c2 = a.c2, a.c3 = a.c3, a.c4 = a.c4, a.c5 = a.c5, a.c6 = a.c6, a.R 0 = a.R 0, a.Q 0 = a.Q 0, nB a.c1.toNat 4 0 = nB a.c1.toNat 4 0, a.R 1 = a.R 1, a.Q 1 = a.Q 1, nB a.c1.toNat 4 1 = nB a.c1.toNat 4 1, a.R 2 = a.R 2, a.Q 2 = a.Q 2, nB a.c1.toNat 4 2 = nB a.c1.toNat 4 2, a.R 3 = a.R 3, a.Q 3 = a.Q 3, nB a.c1.toNat 4 3 = nB a.c1.toNat 4 3, bankS 4 a.W 0 (nB a.c1.toNat 4 0) = bankS 4 a.W 0 (nB a.c1.toNat 4 0), bankS 4 a.W 1 (nB a.c1.toNat 4 1) = bankS 4 a.W 1 (nB a.c1.toNat 4 1), bankS 4 a.W 2 (nB a.c1.toNat 4 2) = bankS 4 a.W 2 (nB a.c1.toNat 4 2), bankS 4 a.W 3 (nB a.c1.toNat 4 3) = bankS 4 a.W 3 (nB a.c1.toNat 4 3)]
theorem tBankN13_ok {a : MM} {b : MM} : AllP (tBankN13 a b) := by
  unfold tBankN13
  repeat' first | exact AllP_nil | refine AllP_cons rfl ?_
noncomputable abbrev mF1 (a b : MM) : List Vse.Tok := [.loop .done (some .ret) (sameFr 8 9) #[35, 36] sameA sameB 1, .defd] ++ (rep1 a).map (·.ren (fun j => 2 + j)) ++ (rep1 b).map (·.ren (fun j => 5 + j)) ++ [.cells true 32 [.p 5 0], .cells true 4 [.b false], .cells true 32 [.p 11 0]] ++ (rep1 a).map (·.ren (fun j => 11 + j))
noncomputable def finF1 (a b : MM) : St := { fr := Tr.but 32 [], n := 32, m := mF1 a b, dm := [], wr := [] }
noncomputable abbrev mF2 (a b : MM) : List Vse.Tok := [.loop .done (some .ret) (sameFr 10 11) #[35, 36] sameA sameB 1, .defd] ++ (rep2 a).map (·.ren (fun j => 2 + j)) ++ (rep2 b).map (·.ren (fun j => 6 + j)) ++ [.cells true 32 [.p 6 0], .cells true 4 [.b false], .cells true 32 [.p 13 0]] ++ (rep2 a).map (·.ren (fun j => 13 + j))
noncomputable def finF2 (a b : MM) : St := { fr := Tr.but 32 [], n := 32, m := mF2 a b, dm := [], wr := [] }
noncomputable abbrev mF3 (a b : MM) : List Vse.Tok := [.loop .done (some .ret) (sameFr 12 13) #[35, 36] sameA sameB 1, .defd] ++ (rep3 a).map (·.ren (fun j => 2 + j)) ++ (rep3 b).map (·.ren (fun j => 7 + j)) ++ [.cells true 32 [.p 7 0], .cells true 4 [.b false], .cells true 32 [.p 15 0]] ++ (rep3 a).map (·.ren (fun j => 15 + j))
noncomputable def finF3 (a b : MM) : St := { fr := Tr.but 32 [], n := 32, m := mF3 a b, dm := [], wr := [] }
noncomputable abbrev mF4 (a b : MM) : List Vse.Tok := [.loop .done (some .ret) (sameFr 14 15) #[35, 36] sameA sameB 1, .defd] ++ (rep4 a).map (·.ren (fun j => 2 + j)) ++ (rep4 b).map (·.ren (fun j => 8 + j)) ++ [.cells true 32 [.p 8 0], .cells true 4 [.b false], .cells true 32 [.p 17 0]] ++ (rep4 a).map (·.ren (fun j => 17 + j))
noncomputable def finF4 (a b : MM) : St := { fr := Tr.but 32 [], n := 32, m := mF4 a b, dm := [], wr := [] }
theorem dif_100 (a b : MM) (i : Int) : roundX P ctP 100 30 none (lpAt P 36 [1,1,0]) (mkS1 a b i) [.cmp true, .cmp true, .cmp true, .cmp false, .at 0, .idx, .at 0, .idx, .ld [.s .i64 (a.W (2 * i.toNat)), .s .i64 (a.W (2 * i.toNat + 1))], .ld [.s .i64 (b.W (2 * i.toNat)), .s .i64 (b.W (2 * i.toNat + 1))]] 14 [some 0, some 1, some 2, some 3, some 4, some 5, some 6, some 7, some 8, some 9, some 10, some 11, some 12, some 13] (finF1 a b) =
    some (Exit.ret, [obB true (i < a.c1 * (2 : Int)), (zBankN10 a i) = (zBankN10 a i), ([] : List Vse.Tok) = [], obB true ((0 : Int) ≤ i ∧ i < (2 : Int) * a.c1), okP (a.c0, a.c1, a.c2, a.c3, a.c4, a.c5, a.c6), i.tmod a.c6 = (0 : Int) ∧ 0 < 1, a.c6 ≠ (0 : Int), IntKind.i64.wrap (i.tdiv a.c6) = i.tdiv a.c6, (0 : Int) ≤ i.tdiv a.c6 ∧ i.tdiv a.c6 < ((nB a.c1.toNat 1 0 : Nat) : Int), List.map Sc.lv (List.take 2 (List.drop ((i.tdiv a.c6).toNat * 2) (bankS 1 a.W 0 (nB a.c1.toNat 1 0)))) = (zBankN12 a i), (zBankN11 b i) = (zBankN11 b i), ([] : List Vse.Tok) = [], obB true ((0 : Int) ≤ i ∧ i < (2 : Int) * b.c1), okP (b.c0, b.c1, b.c2, b.c3, b.c4, b.c5, b.c6), i.tmod b.c6 = (0 : Int) ∧ 0 < 1, b.c6 ≠ (0 : Int), IntKind.i64.wrap (i.tdiv b.c6) = i.tdiv b.c6, (0 : Int) ≤ i.tdiv b.c6 ∧ i.tdiv b.c6 < ((nB b.c1.toNat 1 0 : Nat) : Int), List.map Sc.lv (List.take 2 (List.drop ((i.tdiv b.c6).toNat * 2) (bankS 1 b.W 0 (nB b.c1.toNat 1 0)))) = (zBankN13 b i), obB false (a.W (2 * i.toNat) = b.W (2 * i.toNat)), SameL (LoopState.done, some Code.ret, #[35, 36], sameA, sameB) (LoopState.done, some Code.ret, #[35, 36], sameA, sameB)] ++ tBankN10 a b) := by kernel_rfl
theorem dif_101 (a b : MM) (i : Int) : roundX P ctP 100 30 none (lpAt P 36 [1,1,0]) (mkS1 a b i) [.cmp true, .cmp true, .cmp true, .cmp true, .cmp false, .at 0, .idx, .at 0, .idx, .ld [.s .i64 (a.W (2 * i.toNat)), .s .i64 (a.W (2 * i.toNat + 1))], .ld [.s .i64 (b.W (2 * i.toNat)), .s .i64 (b.W (2 * i.toNat + 1))]] 14 [some 0, some 1, some 2, some 3, some 4, some 5, some 6, some 7, some 8, some 9, some 10, some 11, some 12, some 13] (finF1 a b) =
    some (Exit.ret, [obB true (i < a.c1 * (2 : Int)), (zBankN10 a i) = (zBankN10 a i), ([] : List Vse.Tok) = [], obB true ((0 : Int) ≤ i ∧ i < (2 : Int) * a.c1), okP (a.c0, a.c1, a.c2, a.c3, a.c4, a.c5, a.c6), i.tmod a.c6 = (0 : Int) ∧ 0 < 1, a.c6 ≠ (0 : Int), IntKind.i64.wrap (i.tdiv a.c6) = i.tdiv a.c6, (0 : Int) ≤ i.tdiv a.c6 ∧ i.tdiv a.c6 < ((nB a.c1.toNat 1 0 : Nat) : Int), List.map Sc.lv (List.take 2 (List.drop ((i.tdiv a.c6).toNat * 2) (bankS 1 a.W 0 (nB a.c1.toNat 1 0)))) = (zBankN12 a i), (zBankN11 b i) = (zBankN11 b i), ([] : List Vse.Tok) = [], obB true ((0 : Int) ≤ i ∧ i < (2 : Int) * b.c1), okP (b.c0, b.c1, b.c2, b.c3, b.c4, b.c5, b.c6), i.tmod b.c6 = (0 : Int) ∧ 0 < 1, b.c6 ≠ (0 : Int), IntKind.i64.wrap (i.tdiv b.c6) = i.tdiv b.c6, (0 : Int) ≤ i.tdiv b.c6 ∧ i.tdiv b.c6 < ((nB b.c1.toNat 1 0 : Nat) : Int), List.map Sc.lv (List.take 2 (List.drop ((i.tdiv b.c6).toNat * 2) (bankS 1 b.W 0 (nB b.c1.toNat 1 0)))) = (zBankN13 b i), obB true (a.W (2 * i.toNat) = b.W (2 * i.toNat)), obB false (a.W (2 * i.toNat + 1) = b.W (2 * i.toNat + 1)), SameL (LoopState.done, some Code.ret, #[35, 36], sameA, sameB) (LoopState.done, some Code.ret, #[35, 36], sameA, sameB)] ++ tBankN10 a b) := by kernel_rfl
theorem dif_200 (a b : MM) (i : Int) : roundX P ctP 100 30 none (lpAt P 36 [1,1,0]) (mkS2 a b i) [.cmp true, .cmp true, .cmp true, .cmp false, .at 0, .idx, .at 0, .idx, .ld [.s .i64 (a.W (2 * i.toNat)), .s .i64 (a.W (2 * i.toNat + 1))], .ld [.s .i64 (b.W (2 * i.toNat)), .s .i64 (b.W (2 * i.toNat + 1))]] 17 [some 0, some 1, some 2, some 3, some 4, some 5, some 6, some 7, some 8, some 9, some 10, some 11, some 12, some 13, some 14, some 15, some 16] (finF2 a b) =
    some (Exit.ret, [obB true (i < a.c1 * (2 : Int)), (zBankN10 a i) = (zBankN10 a i), ([] : List Vse.Tok) = [], obB true ((0 : Int) ≤ i ∧ i < (2 : Int) * a.c1), okP (a.c0, a.c1, a.c2, a.c3, a.c4, a.c5, a.c6), i.tmod a.c6 = (0 : Int) ∧ 0 < 2, a.c6 ≠ (0 : Int), IntKind.i64.wrap (i.tdiv a.c6) = i.tdiv a.c6, (0 : Int) ≤ i.tdiv a.c6 ∧ i.tdiv a.c6 < ((nB a.c1.toNat 2 0 : Nat) : Int), List.map Sc.lv (List.take 2 (List.drop ((i.tdiv a.c6).toNat * 2) (bankS 2 a.W 0 (nB a.c1.toNat 2 0)))) = (zBankN12 a i), (zBankN11 b i) = (zBankN11 b i), ([] : List Vse.Tok) = [], obB true ((0 : Int) ≤ i ∧ i < (2 : Int) * b.c1), okP (b.c0, b.c1, b.c2, b.c3, b.c4, b.c5, b.c6), i.tmod b.c6 = (0 : Int) ∧ 0 < 2, b.c6 ≠ (0 : Int), IntKind.i64.wrap (i.tdiv b.c6) = i.tdiv b.c6, (0 : Int) ≤ i.tdiv b.c6 ∧ i.tdiv b.c6 < ((nB b.c1.toNat 2 0 : Nat) : Int), List.map Sc.lv (List.take 2 (List.drop ((i.tdiv b.c6).toNat * 2) (bankS 2 b.W 0 (nB b.c1.toNat 2 0)))) = (zBankN13 b i), obB false (a.W (2 * i.toNat) = b.W (2 * i.toNat)), SameL (LoopState.done, some Code.ret, #[35, 36], sameA, sameB) (LoopState.done, some Code.ret, #[35, 36], sameA, sameB)] ++ tBankN11 a b) := by kernel_rfl
theorem dif_201 (a b : MM) (i : Int) : roundX P ctP 100 30 none (lpAt P 36 [1,1,0]) (mkS2 a b i) [.cmp true, .cmp true, .cmp true, .cmp true, .cmp false, .at 0, .idx, .at 0, .idx, .ld [.s .i64 (a.W (2 * i.toNat)), .s .i64 (a.W (2 * i.toNat + 1))], .ld [.s .i64 (b.W (2 * i.toNat)), .s .i64 (b.W (2 * i.toNat + 1))]] 17 [some 0, some 1, some 2, some 3, some 4, some 5, some 6, some 7, some 8, some 9, some 10, some 11, some 12, some 13, some 14, some 15, some 16] (finF2 a b) =
    some (Exit.ret, [obB true (i < a.c1 * (2 : Int)), (zBankN10 a i) = (zBankN10 a i), ([] : List Vse.Tok) = [], obB true ((0 : Int) ≤ i ∧ i < (2 : Int) * a.c1), okP (a.c0, a.c1, a.c2, a.c3, a.c4, a.c5, a.c6), i.tmod a.c6 = (0 : Int) ∧ 0 < 2, a.c6 ≠ (0 : Int), IntKind.i64.wrap (i.tdiv a.c6) = i.tdiv a.c6, (0 : Int) ≤ i.tdiv a.c6 ∧ i.tdiv a.c6 < ((nB a.c1.toNat 2 0 : Nat) : Int), List.map Sc.lv (List.take 2 (List.drop ((i.tdiv a.c6).toNat * 2) (bankS 2 a.W 0 (nB a.c1.toNat 2 0)))) = (zBankN12 a i), (zBankN11 b i) = (zBankN11 b i), ([] : List Vse.Tok) = [], obB true ((0 : Int) ≤ i ∧ i < (2 : Int) * b.c1), okP (b.c0, b.c1, b.c2, b.c3, b.c4, b.c5, b.c6), i.tmod b.c6 = (0 : Int) ∧ 0 < 2, b.c6 ≠ (0 : Int), IntKind.i64.wrap (i.tdiv b.c6) = i.tdiv b.c6, (0 : Int) ≤ i.tdiv b.c6 ∧ i.tdiv b.c6 < ((nB b.c1.toNat 2 0 : Nat) : Int), List.map Sc.lv (List.take 2 (List.drop ((i.tdiv b.c6).toNat * 2) (bankS 2 b.W 0 (nB b.c1.toNat 2 0)))) = (zBankN13 b i), obB true (a.W (2 * i.toNat) = b.W (2 * i.toNat)), obB false (a.W (2 * i.toNat + 1) = b.W (2 * i.toNat + 1)), SameL (LoopState.done, some Code.ret, #[35, 36], sameA, sameB) (LoopState.done, some Code.ret, #[35, 36], sameA, sameB)] ++ tBankN11 a b) := by kernel_rfl
theorem dif_210 (a b : MM) (i : Int) : roundX P ctP 100 30 none (lpAt P 36 [1,1,0]) (mkS2 a b i) [.cmp true, .cmp true, .cmp true, .cmp false, .at 1, .idx, .at 1, .idx, .ld [.s .i64 (a.W (2 * i.toNat)), .s .i64 (a.W (2 * i.toNat + 1))], .ld [.s .i64 (b.W (2 * i.toNat)), .s .i64 (b.W (2 * i.toNat + 1))]] 17 [some 0, some 1, some 2, some 3, some 4, some 5, some 6, some 7, some 8, some 9, some 10, some 11, some 12, some 13, some 14, some 15, some 16] (finF2 a b) =
    some (Exit.ret, [obB true (i < a.c1 * (2 : Int)), (zBankN10 a i) = (zBankN10 a i), ([] : List Vse.Tok) = [], obB true ((0 : Int) ≤ i ∧ i < (2 : Int) * a.c1), okP (a.c0, a.c1, a.c2, a.c3, a.c4, a.c5, a.c6), i.tmod a.c6 = (1 : Int) ∧ 1 < 2, a.c6 ≠ (0 : Int), IntKind.i64.wrap (i.tdiv a.c6) = i.tdiv a.c6, (0 : Int) ≤ i.tdiv a.c6 ∧ i.tdiv a.c6 < ((nB a.c1.toNat 2 1 : Nat) : Int), List.map Sc.lv (List.take 2 (List.drop ((i.tdiv a.c6).toNat * 2) (bankS 2 a.W 1 (nB a.c1.toNat 2 1)))) = (zBankN12 a i), (zBankN11 b i) = (zBankN11 b i), ([] : List Vse.Tok) = [], obB true ((0 : Int) ≤ i ∧ i < (2 : Int) * b.c1), okP (b.c0, b.c1, b.c2, b.c3, b.c4, b.c5, b.c6), i.tmod b.c6 = (1 : Int) ∧ 1 < 2, b.c6 ≠ (0 : Int), IntKind.i64.wrap (i.tdiv b.c6) = i.tdiv b.c6, (0 : Int) ≤ i.tdiv b.c6 ∧ i.tdiv b.c6 < ((nB b.c1.toNat 2 1 : Nat) : Int), List.map Sc.lv (List.take 2 (List.drop ((i.tdiv b.c6).toNat * 2) (bankS 2 b.W 1 (nB b.c1.toNat 2 1)))) = (zBankN13 b i), obB false (a.W (2 * i.toNat) = b.W (2 * i.toNat)), SameL (LoopState.done, some Code.ret, #[35, 36], sameA, sameB) (LoopState.done, some Code.ret, #[35, 36], sameA, sameB)] ++ tBankN11 a b) := by kernel_rfl
theorem dif_211 (a b : MM) (i : Int) : roundX P ctP 100 30 none (lpAt P 36 [1,1,0]) (mkS2 a b i) [.cmp true, .cmp true, .cmp true, .cmp true, .cmp false, .at 1, .idx, .at 1, .idx, .ld [.s .i64 (a.W (2 * i.toNat)), .s .i64 (a.W (2 * i.toNat + 1))], .ld [.s .i64 (b.W (2 * i.toNat)), .s .i64 (b.W (2 * i.toNat + 1))]] 17 [some 0, some 1, some 2, some 3, some 4, some 5, some 6, some 7, some 8, some 9, some 10, some 11, some 12, some 13, some 14, some 15, some 16] (finF2 a b) =
    some (Exit.ret, [obB true (i < a.c1 * (2 : Int)), (zBankN10 a i) = (zBankN10 a i), ([] : List Vse.Tok) = [], obB true ((0 : Int) ≤ i ∧ i < (2 : Int) * a.c1), okP (a.c0, a.c1, a.c2, a.c3, a.c4, a.c5, a.c6), i.tmod a.c6 = (1 : Int) ∧ 1 < 2, a.c6 ≠ (0 : Int), IntKind.i64.wrap (i.tdiv a.c6) = i.tdiv a.c6, (0 : Int) ≤ i.tdiv a.c6 ∧ i.tdiv a.c6 < ((nB a.c1.toNat 2 1 : Nat) : Int), List.map Sc.lv (List.take 2 (List.drop ((i.tdiv a.c6).toNat * 2) (bankS 2 a.W 1 (nB a.c1.toNat 2 1)))) = (zBankN12 a i), (zBankN11 b i) = (zBankN11 b i), ([] : List Vse.Tok) = [], obB true ((0 : Int) ≤ i ∧ i < (2 : Int) * b.c1), okP (b.c0, b.c1, b.c2, b.c3, b.c4, b.c5, b.c6), i.tmod b.c6 = (1 : Int) ∧ 1 < 2, b.c6 ≠ (0 : Int), IntKind.i64.wrap (i.tdiv b.c6) = i.tdiv b.c6, (0 : Int) ≤ i.tdiv b.c6 ∧ i.tdiv b.c6 < ((nB b.c1.toNat 2 1 : Nat) : Int), List.map Sc.lv (List.take 2 (List.drop ((i.tdiv b.c6).toNat * 2) (bankS 2 b.W 1 (nB b.c1.toNat 2 1)))) = (zBankN13 b i), obB true (a.W (2 * i.toNat) = b.W (2 * i.toNat)), obB false (a.W (2 * i.toNat + 1) = b.W (2 * i.toNat + 1)), SameL (LoopState.done, some Code.ret, #[35, 36], sameA, sameB) (LoopState.done, some Code.ret, #[35, 36], sameA, sameB)] ++ tBankN11 a b) := by kernel_rfl
theorem dif_300 (a b : MM) (i : Int) : roundX P ctP 100 30 none (lpAt P 36 [1,1,0]) (mkS3 a b i) [.cmp true, .cmp true, .cmp true, .cmp false, .at 0, .idx, .at 0, .idx, .ld [.s .i64 (a.W (2 * i.toNat)), .s .i64 (a.W (2 * i.toNat + 1))], .ld [.s .i64 (b.W (2 * i.toNat)), .s .i64 (b.W (2 * i.toNat + 1))]] 20 [some 0, some 1, some 2, some 3, some 4, some 5, some 6, some 7, some 8, some 9, some 10, some 11, some 12, some 13, some 14, some 15, some 16, some 17, some 18, some 19] (finF3 a b) =
    some (Exit.ret, [obB true (i < a.c1 * (2 : Int)), (zBankN10 a i) = (zBankN10 a i), ([] : List Vse.Tok) = [], obB true ((0 : Int) ≤ i ∧ i < (2 : Int) * a.c1), okP (a.c0, a.c1, a.c2, a.c3, a.c4, a.c5, a.c6), i.tmod a.c6 = (0 : Int) ∧ 0 < 3, a.c6 ≠ (0 : Int), IntKind.i64.wrap (i.tdiv a.c6) = i.tdiv a.c6, (0 : Int) ≤ i.tdiv a.c6 ∧ i.tdiv a.c6 < ((nB a.c1.toNat 3 0 : Nat) : Int), List.map Sc.lv (List.take 2 (List.drop ((i.tdiv a.c6).toNat * 2) (bankS 3 a.W 0 (nB a.c1.toNat 3 0)))) = (zBankN12 a i), (zBankN11 b i) = (zBankN11 b i), ([] : List Vse.Tok) = [], obB true ((0 : Int) ≤ i ∧ i < (2 : Int) * b.c1), okP (b.c0, b.c1, b.c2, b.c3, b.c4, b.c5, b.c6), i.tmod b.c6 = (0 : Int) ∧ 0 < 3, b.c6 ≠ (0 : Int), IntKind.i64.wrap (i.tdiv b.c6) = i.tdiv b.c6, (0 : Int) ≤ i.tdiv b.c6 ∧ i.tdiv b.c6 < ((nB b.c1.toNat 3 0 : Nat) : Int), List.map Sc.lv (List.take 2 (List.drop ((i.tdiv b.c6).toNat * 2) (bankS 3 b.W 0 (nB b.c1.toNat 3 0)))) = (zBankN13 b i), obB false (a.W (2 * i.toNat) = b.W (2 * i.toNat)), SameL (LoopState.done, some Code.ret, #[35, 36], sameA, sameB) (LoopState.done, some Code.ret, #[35, 36], sameA, sameB)] ++ tBankN12 a b) := by kernel_rfl
theorem dif_301 (a b : MM) (i : Int) : roundX P ctP 100 30 none (lpAt P 36 [1,1,0]) (mkS3 a b i) [.cmp true, .cmp true, .cmp true, .cmp true, .cmp false, .at 0, .idx, .at 0, .idx, .ld [.s .i64 (a.W (2 * i.toNat)), .s .i64 (a.W (2 * i.toNat + 1))], .ld [.s .i64 (b.W (2 * i.toNat)), .s .i64 (b.W (2 * i.toNat + 1))]] 20 [some 0, some 1, some 2, some 3, some 4, some 5, some 6, some 7, some 8, some 9, some 10, some 11, some 12, some 13, some 14, some 15, some 16, some 17, some 18, some 19] (finF3 a b) =
    some (Exit.ret, [obB true (i < a.c1 * (2 : Int)), (zBankN10 a i) = (zBankN10 a i), ([] : List Vse.Tok) = [], obB true ((0 : Int) ≤ i ∧ i < (2 : Int) * a.c1), okP (a.c0, a.c1, a.c2, a.c3, a.c4, a.c5, a.c6), i.tmod a.c6 = (0 : Int) ∧ 0 < 3, a.c6 ≠ (0 : Int), IntKind.i64.wrap (i.tdiv a.c6) = i.tdiv a.c6, (0 : Int) ≤ i.tdiv a.c6 ∧ i.tdiv a.c6 < ((nB a.c1.toNat 3 0 : Nat) : Int), List.map Sc.lv (List.take 2 (List.drop ((i.tdiv a.c6).toNat * 2) (bankS 3 a.W 0 (nB a.c1.toNat 3 0)))) = (zBankN12 a i), (zBankN11 b i) = (zBankN11 b i), ([] : List Vse.Tok) = [], obB true ((0 : Int) ≤ i ∧ i < (2 : Int) * b.c1), okP (b.c0, b.c1, b.c2, b.c3, b.c4, b.c5, b.c6), i.tmod b.c6 = (0 : Int) ∧ 0 < 3, b.c6 ≠ (0 : Int), IntKind.i64.wrap (i.tdiv b.c6) = i.tdiv b.c6, (0 : Int) ≤ i.tdiv b.c6 ∧ i.tdiv b.c6 < ((nB b.c1.toNat 3 0 : Nat) : Int), List.map Sc.lv (List.take 2 (List.drop ((i.tdiv b.c6).toNat * 2) (bankS 3 b.W 0 (nB b.c1.toNat 3 0)))) = (zBankN13 b i), obB true (a.W (2 * i.toNat) = b.W (2 * i.toNat)), obB false (a.W (2 * i.toNat + 1) = b.W (2 * i.toNat + 1)), SameL (LoopState.done, some Code.ret, #[35, 36], sameA, sameB) (LoopState.done, some Code.ret, #[35, 36], sameA, sameB)] ++ tBankN12 a b) := by kernel_rfl
theorem dif_310 (a b : MM) (i : Int) : roundX P ctP 100 30 none (lpAt P 36 [1,1,0]) (mkS3 a b i) [.cmp true, .cmp true, .cmp true, .cmp false, .at 1, .idx, .at 1, .idx, .ld [.s .i64 (a.W (2 * i.toNat)), .s .i64 (a.W (2 * i.toNat + 1))], .ld [.s .i64 (b.W (2 * i.toNat)), .s .i64 (b.W (2 * i.toNat + 1))]] 20 [some 0, some 1, some 2, some 3, some 4, some 5, some 6, some 7, some 8, some 9, some 10, some 11, some 12, some 13, some 14, some 15, some 16, some 17, some 18, some 19] (finF3 a b) =
    some (Exit.ret, [obB true (i < a.c1 * (2 : Int)), (zBankN10 a i) = (zBankN10 a i), ([] : List Vse.Tok) = [], obB true ((0 : Int) ≤ i ∧ i < (2 : Int) * a.c1), okP (a.c0, a.c1, a.c2, a.c3, a.c4, a.c5, a.c6), i.tmod a.c6 = (1 : Int) ∧ 1 < 3, a.c6 ≠ (0 : Int), IntKind.i64.wrap (i.tdiv a.c6) = i.tdiv a.c6, (0 : Int) ≤ i.tdiv a.c6 ∧ i.tdiv a.c6 < ((nB a.c1.toNat 3 1 : Nat) : Int), List.map Sc.lv (List.take 2 (List.drop ((i.tdiv a.c6).toNat * 2) (bankS 3 a.W 1 (nB a.c1.toNat 3 1)))) = (zBankN12 a i), (zBankN11 b i) = (zBankN11 b i), ([] : List Vse.Tok) = [], obB true ((0 : Int) ≤ i ∧ i < (2 : Int) * b.c1), okP (b.c0, b.c1, b.c2, b.c3, b.c4, b.c5, b.c6), i.tmod b.c6 = (1 : Int) ∧ 1 < 3, b.c6 ≠ (0 : Int), IntKind.i64.wrap (i.tdiv b.c6) = i.tdiv b.c6, (0 : Int) ≤ i.tdiv b.c6 ∧ i.tdiv b.c6 < ((nB b.c1.toNat 3 1 : Nat) : Int), List.map Sc.lv (List.take 2 (List.drop ((i.tdiv b.c6).toNat * 2) (bankS 3 b.W 1 (nB b.c1.toNat 3 1)))) = (zBankN13 b i), obB false (a.W (2 * i.toNat) = b.W (2 * i.toNat)), SameL (LoopState.done, some Code.ret, #[35, 36], sameA, sameB) (LoopState.done, some Code.ret, #[35, 36], sameA, sameB)] ++ tBankN12 a b) := by kernel_rfl
theorem dif_311 (a b : MM) (i : Int) : roundX P ctP 100 30 none (lpAt P 36 [1,1,0]) (mkS3 a b i) [.cmp true, .cmp true, .cmp true, .cmp true, .cmp false, .at 1, .idx, .at 1, .idx, .ld [.s .i64 (a.W (2 * i.toNat)), .s .i64 (a.W (2 * i.toNat + 1))], .ld [.s .i64 (b.W (2 * i.toNat)), .s .i64 (b.W (2 * i.toNat + 1))]] 20 [some 0, some 1, some 2, some 3, some 4, some 5, some 6, some 7, some 8, some 9, some 10, some 11, some 12, some 13, some 14, some 15, some 16, some 17, some 18, some 19] (finF3 a b) =
    some (Exit.ret, [obB true (i < a.c1 * (2 : Int)), (zBankN10 a i) = (zBankN10 a i), ([] : List Vse.Tok) = [], obB true ((0 : Int) ≤ i ∧ i < (2 : Int) * a.c1), okP (a.c0, a.c1, a.c2, a.c3, a.c4, a.c5, a.c6), i.tmod a.c6 = (1 : Int) ∧ 1 < 3, a.c6 ≠ (0 : Int), IntKind.i64.wrap (i.tdiv a.c6) = i.tdiv a.c6, (0 : Int) ≤ i.tdiv a.c6 ∧ i.tdiv a.c6 < ((nB a.c1.toNat 3 1 : Nat) : Int), List.map Sc.lv (List.take 2 (List.drop ((i.tdiv a.c6).toNat * 2) (bankS 3 a.W 1 (nB a.c1.toNat 3 1)))) = (zBankN12 a i), (zBankN11 b i) = (zBankN11 b i), ([] : List Vse.Tok) = [], obB true ((0 : Int) ≤ i ∧ i < (2 : Int) * b.c1), okP (b.c0, b.c1, b.c2, b.c3, b.c4, b.c5, b.c6), i.tmod b.c6 = (1 : Int) ∧ 1 < 3, b.c6 ≠ (0 : Int), IntKind.i64.wrap (i.tdiv b.c6) = i.tdiv b.c6, (0 : Int) ≤ i.tdiv b.c6 ∧ i.tdiv b.c6 < ((nB b.c1.toNat 3 1 : Nat) : Int), List.map Sc.lv (List.take 2 (List.drop ((i.tdiv b.c6).toNat * 2) (bankS 3 b.W 1 (nB b.c1.toNat 3 1)))) = (zBankN13 b i), obB true (a.W (2 * i.toNat) = b.W (2 * i.toNat)), obB false (a.W (2 * i.toNat + 1) = b.W (2 * i.toNat + 1)), SameL (LoopState.done, some Code.ret, #[35, 36], sameA, sameB) (LoopState.done, some Code.ret, #[35, 36], sameA, sameB)] ++ tBankN12 a b) := by kernel_rfl
theorem dif_320 (a b : MM) (i : Int) : roundX P ctP 100 30 none (lpAt P 36 [1,1,0]) (mkS3 a b i) [.cmp true, .cmp true, .cmp true, .cmp false, .at 2, .idx, .at 2, .idx, .ld [.s .i64 (a.W (2 * i.toNat)), .s .i64 (a.W (2 * i.toNat + 1))], .ld [.s .i64 (b.W (2 * i.toNat)), .s .i64 (b.W (2 * i.toNat + 1))]] 20 [some 0, some 1, some 2, some 3, some 4, some 5, some 6, some 7, some 8, some 9, some 10, some 11, some 12, some 13, some 14, some 15, some 16, some 17, some 18, some 19] (finF3 a b) =
    some (Exit.ret, [obB true (i < a.c1 * (2 : Int)), (zBankN10 a i) = (zBankN10 a i), ([] : List Vse.Tok) = [], obB true ((0 : Int) ≤ i ∧ i < (2 : Int) * a.c1), okP (a.c0, a.c1, a.c2, a.c3, a.c4, a.c5, a.c6), i.tmod a.c6 = (2 : Int) ∧ 2 < 3, a.c6 ≠ (0 : Int), IntKind.i64.wrap (i.tdiv a.c6) = i.tdiv a.c6, (0 : Int) ≤ i.tdiv a.c6 ∧ i.tdiv a.c6 < ((nB a.c1.toNat 3 2 : Nat) : Int), List.map Sc.lv (List.take 2 (List.drop ((i.tdiv a.c6).toNat * 2) (bankS 3 a.W 2 (nB a.c1.toNat 3 2)))) = (zBankN12 a i), (zBankN11 b i) = (zBankN11 b i), ([] : List Vse.Tok) = [], obB true ((0 : Int) ≤ i ∧ i < (2 : Int) * b.c1), okP (b.c0, b.c1, b.c2, b.c3, b.c4, b.c5, b.c6), i.tmod b.c6 = (2 : Int) ∧ 2 < 3, b.c6 ≠ (0 : Int), IntKind.i64.wrap (i.tdiv b.c6) = i.tdiv b.c6, (0 : Int) ≤ i.tdiv b.c6 ∧ i.tdiv b.c6 < ((nB b.c1.toNat 3 2 : Nat) : Int), List.map Sc.lv (List.take 2 (List.drop ((i.tdiv b.c6).toNat * 2) (bankS 3 b.W 2 (nB b.c1.toNat 3 2)))) = (zBankN13 b i), obB false (a.W (2 * i.toNat) = b.W (2 * i.toNat)), SameL (LoopState.done, some Code.ret, #[35, 36], sameA, sameB) (LoopState.done, some Code.ret, #[35, 36], sameA, sameB)] ++ tBankN12 a b) := by kernel_rfl
theorem dif_321 (a b : MM) (i : Int) : roundX P ctP 100 30 none (lpAt P 36 [1,1,0]) (mkS3 a b i) [.cmp true, .cmp true, .cmp true, .cmp true, .cmp false, .at 2, .idx, .at 2, .idx, .ld [.s .i64 (a.W (2 * i.toNat)), .s .i64 (a.W (2 * i.toNat + 1))], .ld [.s .i64 (b.W (2 * i.toNat)), .s .i64 (b.W (2 * i.toNat + 1))]] 20 [some 0, some 1, some 2, some 3, some 4, some 5, some 6, some 7, some 8, some 9, some 10, some 11, some 12, some 13, some 14, some 15, some 16, some 17, some 18, some 19] (finF3 a b) =
    some (Exit.ret, [obB true (i < a.c1 * (2 : Int)), (zBankN10 a i) = (zBankN10 a i), ([] : List Vse.Tok) = [], obB true ((0 : Int) ≤ i ∧ i < (2 : Int) * a.c1), okP (a.c0, a.c1, a.c2, a.c3, a.c4, a.c5, a.c6), i.tmod a.c6 = (2 : Int) ∧ 2 < 3, a.c6 ≠ (0 : Int), IntKind.i64.wrap (i.tdiv a.c6) = i.tdiv a.c6, (0 : Int) ≤ i.tdiv a.c6 ∧ i.tdiv a.c6 < ((nB a.c1.toNat 3 2 : Nat) : Int), List.map Sc.lv (List.take 2 (List.drop ((i.tdiv a.c6).toNat * 2) (bankS 3 a.W 2 (nB a.c1.toNat 3 2)))) = (zBankN12 a i), (zBankN11 b i) = (zBankN11 b i), ([] : List Vse.Tok) = [], obB true ((0 : Int) ≤ i ∧ i < (2 : Int) * b.c1), okP (b.c0, b.c1, b.c2, b.c3, b.c4, b.c5, b.c6), i.tmod b.c6 = (2 : Int) ∧ 2 < 3, b.c6 ≠ (0 : Int), IntKind.i64.wrap (i.tdiv b.c6) = i.tdiv b.c6, (0 : Int) ≤ i.tdiv b.c6 ∧ i.tdiv b.c6 < ((nB b.c1.toNat 3 2 : Nat) : Int), List.map Sc.lv (List.take 2 (List.drop ((i.tdiv b.c6).toNat * 2) (bankS 3 b.W 2 (nB b.c1.toNat 3 2)))) = (zBankN13 b i), obB true (a.W (2 * i.toNat) = b.W (2 * i.toNat)), obB false (a.W (2 * i.toNat + 1) = b.W (2 * i.toNat + 1)), SameL (LoopState.done, some Code.ret, #[35, 36], sameA, sameB) (LoopState.done, some Code.ret, #[35, 36], sameA, sameB)] ++ tBankN12 a b) := by kernel_rfl
theorem dif_400 (a b : MM) (i : Int) : roundX P ctP 100 30 none (lpAt P 36 [1,1,0]) (mkS4 a b i) [.cmp true, .cmp true, .cmp true, .cmp false, .at 0, .idx, .at 0, .idx, .ld [.s .i64 (a.W (2 * i.toNat)), .s .i64 (a.W (2 * i.toNat + 1))], .ld [.s .i64 (b.W (2 * i.toNat)), .s .i64 (b.W (2 * i.toNat + 1))]] 23 [some 0, some 1, some 2, some 3, some 4, some 5, some 6, some 7, some 8, some 9, some 10, some 11, some 12, some 13, some 14, some 15, some 16, some 17, some 18, some 19, some 20, some 21, some 22] (finF4 a b) =
    some (Exit.ret, [obB true (i < a.c1 * (2 : Int)), (zBankN10 a i) = (zBankN10 a i), ([] : List Vse.Tok) = [], obB true ((0 : Int) ≤ i ∧ i < (2 : Int) * a.c1), okP (a.c0, a.c1, a.c2, a.c3, a.c4, a.c5, a.c6), i.tmod a.c6 = (0 : Int) ∧ 0 < 4, a.c6 ≠ (0 : Int), IntKind.i64.wrap (i.tdiv a.c6) = i.tdiv a.c6, (0 : Int) ≤ i.tdiv a.c6 ∧ i.tdiv a.c6 < ((nB a.c1.toNat 4 0 : Nat) : Int), List.map Sc.lv (List.take 2 (List.drop ((i.tdiv a.c6).toNat * 2) (bankS 4 a.W 0 (nB a.c1.toNat 4 0)))) = (zBankN12 a i), (zBankN11 b i) = (zBankN11 b i), ([] : List Vse.Tok) = [], obB true ((0 : Int) ≤ i ∧ i < (2 : Int) * b.c1), okP (b.c0, b.c1, b.c2, b.c3, b.c4, b.c5, b.c6), i.tmod b.c6 = (0 : Int) ∧ 0 < 4, b.c6 ≠ (0 : Int), IntKind.i64.wrap (i.tdiv b.c6) = i.tdiv b.c6, (0 : Int) ≤ i.tdiv b.c6 ∧ i.tdiv b.c6 < ((nB b.c1.toNat 4 0 : Nat) : Int), List.map Sc.lv (List.take 2 (List.drop ((i.tdiv b.c6).toNat * 2) (bankS 4 b.W 0 (nB b.c1.toNat 4 0)))) = (zBankN13 b i), obB false (a.W (2 * i.toNat) = b.W (2 * i.toNat)), SameL (LoopState.done, some Code.ret, #[35, 36], sameA, sameB) (LoopState.done, some Code.ret, #[35, 36], sameA, sameB)] ++ tBankN13 a b) := by kernel_rfl
theorem dif_401 (a b : MM) (i : Int) : roundX P ctP 100 30 none (lpAt P 36 [1,1,0]) (mkS4 a b i) [.cmp true, .cmp true, .cmp true, .cmp true, .cmp false, .at 0, .idx, .at 0, .idx, .ld [.s .i64 (a.W (2 * i.toNat)), .s .i64 (a.W (2 * i.toNat + 1))], .ld [.s .i64 (b.W (2 * i.toNat)), .s .i64 (b.W (2 * i.toNat + 1))]] 23 [some 0, some 1, some 2, some 3, some 4, some 5, some 6, some 7, some 8, some 9, some 10, some 11, some 12, some 13, some 14, some 15, some 16, some 17, some 18, some 19, some 20, some 21, some 22] (finF4 a b) =
    some (Exit.ret, [obB true (i < a.c1 * (2 : Int)), (zBankN10 a i) = (zBankN10 a i), ([] : List Vse.Tok) = [], obB true ((0 : Int) ≤ i ∧ i < (2 : Int) * a.c1), okP (a.c0, a.c1, a.c2, a.c3, a.c4, a.c5, a.c6), i.tmod a.c6 = (0 : Int) ∧ 0 < 4, a.c6 ≠ (0 : Int), IntKind.i64.wrap (i.tdiv a.c6) = i.tdiv a.c6, (0 : Int) ≤ i.tdiv a.c6 ∧ i.tdiv a.c6 < ((nB a.c1.toNat 4 0 : Nat) : Int), List.map Sc.lv (List.take 2 (List.drop ((i.tdiv a.c6).toNat * 2) (bankS 4 a.W 0 (nB a.c1.toNat 4 0)))) = (zBankN12 a i), (zBankN11 b i) = (zBankN11 b i), ([] : List Vse.Tok) = [], obB true ((0 : Int) ≤ i ∧ i < (2 : Int) * b.c1), okP (b.c0, b.c1, b.c2, b.c3, b.c4, b.c5, b.c6), i.tmod b.c6 = (0 : Int) ∧ 0 < 4, b.c6 ≠ (0 : Int), IntKind.i64.wrap (i.tdiv b.c6) = i.tdiv b.c6, (0 : Int) ≤ i.tdiv b.c6 ∧ i.tdiv b.c6 < ((nB b.c1.toNat 4 0 : Nat) : Int), List.map Sc.lv (List.take 2 (List.drop ((i.tdiv b.c6).toNat * 2) (bankS 4 b.W 0 (nB b.c1.toNat 4 0)))) = (zBankN13 b i), obB true (a.W (2 * i.toNat) = b.W (2 * i.toNat)), obB false (a.W (2 * i.toNat + 1) = b.W (2 * i.toNat + 1)), SameL (LoopState.done, some Code.ret, #[35, 36], sameA, sameB) (LoopState.done, some Code.ret, #[35, 36], sameA, sameB)] ++ tBankN13 a b) := by kernel_rfl
theorem dif_410 (a b : MM) (i : Int) : roundX P ctP 100 30 none (lpAt P 36 [1,1,0]) (mkS4 a b i) [.cmp true, .cmp true, .cmp true, .cmp false, .at 1, .idx, .at 1, .idx, .ld [.s .i64 (a.W (2 * i.toNat)), .s .i64 (a.W (2 * i.toNat + 1))], .ld [.s .i64 (b.W (2 * i.toNat)), .s .i64 (b.W (2 * i.toNat + 1))]] 23 [some 0, some 1, some 2, some 3, some 4, some 5, some 6, some 7, some 8, some 9, some 10, some 11, some 12, some 13, some 14, some 15, some 16, some 17, some 18, some 19, some 20, some 21, some 22] (finF4 a b) =
    some (Exit.ret, [obB true (i < a.c1 * (2 : Int)), (zBankN10 a i) = (zBankN10 a i), ([] : List Vse.Tok) = [], obB true ((0 : Int) ≤ i ∧ i < (2 : Int) * a.c1), okP (a.c0, a.c1, a.c2, a.c3, a.c4, a.c5, a.c6), i.tmod a.c6 = (1 : Int) ∧ 1 < 4, a.c6 ≠ (0 : Int), IntKind.i64.wrap (i.tdiv a.c6) = i.tdiv a.c6, (0 : Int) ≤ i.tdiv a.c6 ∧ i.tdiv a.c6 < ((nB a.c1.toNat 4 1 : Nat) : Int), List.map Sc.lv (List.take 2 (List.drop ((i.tdiv a.c6).toNat * 2) (bankS 4 a.W 1 (nB a.c1.toNat 4 1)))) = (zBankN12 a i), (zBankN11 b i) = (zBankN11 b i), ([] : List Vse.Tok) = [], obB true ((0 : Int) ≤ i ∧ i < (2 : Int) * b.c1), okP (b.c0, b.c1, b.c2, b.c3, b.c4, b.c5, b.c6), i.tmod b.c6 = (1 : Int) ∧ 1 < 4, b.c6 ≠ (0 : Int), IntKind.i64.wrap (i.tdiv b.c6) = i.tdiv b.c6, (0 : Int) ≤ i.tdiv b.c6 ∧ i.tdiv b.c6 < ((nB b.c1.toNat 4 1 : Nat) : Int), List.map Sc.lv (List.take 2 (List.drop ((i.tdiv b.c6).toNat * 2) (bankS 4 b.W 1 (nB b.c1.toNat 4 1)))) = (zBankN13 b i), obB false (a.W (2 * i.toNat) = b.W (2 * i.toNat)), SameL (LoopState.done, some Code.ret, #[35, 36], sameA, sameB) (LoopState.done, some Code.ret, #[35, 36], sameA, sameB)] ++ tBankN13 a b) := by kernel_rfl
theorem dif_411 (a b : MM) (i : Int) : roundX P ctP 100 30 none (lpAt P 36 [1,1,0]) (mkS4 a b i) [.cmp true, .cmp true, .cmp true, .cmp true, .cmp false, .at 1, .idx, .at 1, .idx, .ld [.s .i64 (a.W (2 * i.toNat)), .s .i64 (a.W (2 * i.toNat + 1))], .ld [.s .i64 (b.W (2 * i.toNat)), .s .i64 (b.W (2 * i.toNat + 1))]] 23 [some 0, some 1, some 2, some 3, some 4, some 5, some 6, some 7, some 8, some 9, some 10, some 11, some 12, some 13, some 14, some 15, some 16, some 17, some 18, some 19, some 20, some 21, some 22] (finF4 a b) =
    some (Exit.ret, [obB true (i < a.c1 * (2 : Int)), (zBankN10 a i) = (zBankN10 a i), ([] : List Vse.Tok) = [], obB true ((0 : Int) ≤ i ∧ i < (2 : Int) * a.c1), okP (a.c0, a.c1, a.c2, a.c3, a.c4, a.c5, a.c6), i.tmod a.c6 = (1 : Int) ∧ 1 < 4, a.c6 ≠ (0 : Int), IntKind.i64.wrap (i.tdiv a.c6) = i.tdiv a.c6, (0 : Int) ≤ i.tdiv a.c6 ∧ i.tdiv a.c6 < ((nB a.c1.toNat 4 1 : Nat) : Int), List.map Sc.lv (List.take 2 (List.drop ((i.tdiv a.c6).toNat * 2) (bankS 4 a.W 1 (nB a.c1.toNat 4 1)))) = (zBankN12 a i), (zBankN11 b i) = (zBankN11 b i), ([] : List Vse.Tok) = [], obB true ((0 : Int) ≤ i ∧ i < (2 : Int) * b.c1), okP (b.c0, b.c1, b.c2, b.c3, b.c4, b.c5, b.c6), i.tmod b.c6 = (1 : Int) ∧ 1 < 4, b.c6 ≠ (0 : Int), IntKind.i64.wrap (i.tdiv b.c6) = i.tdiv b.c6, (0 : Int) ≤ i.tdiv b.c6 ∧ i.tdiv b.c6 < ((nB b.c1.toNat 4 1 : Nat) : Int), List.map Sc.lv (List.take 2 (List.drop ((i.tdiv b.c6).toNat * 2) (bankS 4 b.W 1 (nB b.c1.toNat 4 1)))) = (zBankN13 b i), obB true (a.W (2 * i.toNat) = b.W (2 * i.toNat)), obB false (a.W (2 * i.toNat + 1) = b.W (2 * i.toNat + 1)), SameL (LoopState.done, some Code.ret, #[35, 36], sameA, sameB) (LoopState.done, some Code.ret, #[35, 36], sameA, sameB)] ++ tBankN13 a b) := by kernel_rfl
theorem dif_420 (a b : MM) (i : Int) : roundX P ctP 100 30 none (lpAt P 36 [1,1,0]) (mkS4 a b i) [.cmp true, .cmp true, .cmp true, .cmp false, .at 2, .idx, .at 2, .idx, .ld [.s .i64 (a.W (2 * i.toNat)), .s .i64 (a.W (2 * i.toNat + 1))], .ld [.s .i64 (b.W (2 * i.toNat)), .s .i64 (b.W (2 * i.toNat + 1))]] 23 [some 0, some 1, some 2, some 3, some 4, some 5, some 6, some 7, some 8, some 9, some 10, some 11, some 12, some 13, some 14, some 15, some 16, some 17, some 18, some 19, some 20, some 21, some 22] (finF4 a b) =
    some (Exit.ret, [obB true (i < a.c1 * (2 : Int)), (zBankN10 a i) = (zBankN10 a i), ([] : List Vse.Tok) = [], obB true ((0 : Int) ≤ i ∧ i < (2 : Int) * a.c1), okP (a.c0, a.c1, a.c2, a.c3, a.c4, a.c5, a.c6), i.tmod a.c6 = (2 : Int) ∧ 2 < 4, a.c6 ≠ (0 : Int), IntKind.i64.wrap (i.tdiv a.c6) = i.tdiv a.c6, (0 : Int) ≤ i.tdiv a.c6 ∧ i.tdiv a.c6 < ((nB a.c1.toNat 4 2 : Nat) : Int), List.map Sc.lv (List.take 2 (List.drop ((i.tdiv a.c6).toNat * 2) (bankS 4 a.W 2 (nB a.c1.toNat 4 2)))) = (zBankN12 a i), (zBankN11 b i) = (zBankN11 b i), ([] : List Vse.Tok) = [], obB true ((0 : Int) ≤ i ∧ i < (2 : Int) * b.c1), okP (b.c0, b.c1, b.c2, b.c3, b.c4, b.c5, b.c6), i.tmod b.c6 = (2 : Int) ∧ 2 < 4, b.c6 ≠ (0 : Int), IntKind.i64.wrap (i.tdiv b.c6) = i.tdiv b.c6, (0 : Int) ≤ i.tdiv b.c6 ∧ i.tdiv b.c6 < ((nB b.c1.toNat 4 2 : Nat) : Int), List.map Sc.lv (List.take 2 (List.drop ((i.tdiv b.c6).toNat * 2) (bankS 4 b.W 2 (nB b.c1.toNat 4 2)))) = (zBankN13 b i), obB false (a.W (2 * i.toNat) = b.W (2 * i.toNat)), SameL (LoopState.done, some Code.ret, #[35, 36], sameA, sameB) (LoopState.done, some Code.ret, #[35, 36], sameA, sameB)] ++ tBankN13 a b) := by kernel_rfl
theorem dif_421 (a b : MM) (i : Int) : roundX P ctP 100 30 none (lpAt P 36 [1,1,0]) (mkS4 a b i) [.cmp true, .cmp true, .cmp true, .cmp true, .cmp false, .at 2, .idx, .at 2, .idx, .ld [.s .i64 (a.W (2 * i.toNat)), .s .i64 (a.W (2 * i.toNat + 1))], .ld [.s .i64 (b.W (2 * i.toNat)), .s .i64 (b.W (2 * i.toNat + 1))]] 23 [some 0, some 1, some 2, some 3, some 4, some 5, some 6, some 7, some 8, some 9, some 10, some 11, some 12, some 13, some 14, some 15, some 16, some 17, some 18, some 19, some 20, some 21, some 22] (finF4 a b) =
    some (Exit.ret, [obB true (i < a.c1 * (2 : Int)), (zBankN10 a i) = (zBankN10 a i), ([] : List Vse.Tok) = [], obB true ((0 : Int) ≤ i ∧ i < (2 : Int) * a.c1), okP (a.c0, a.c1, a.c2, a.c3, a.c4, a.c5, a.c6), i.tmod a.c6 = (2 : Int) ∧ 2 < 4, a.c6 ≠ (0 : Int), IntKind.i64.wrap (i.tdiv a.c6) = i.tdiv a.c6, (0 : Int) ≤ i.tdiv a.c6 ∧ i.tdiv a.c6 < ((nB a.c1.toNat 4 2 : Nat) : Int), List.map Sc.lv (List.take 2 (List.drop ((i.tdiv a.c6).toNat * 2) (bankS 4 a.W 2 (nB a.c1.toNat 4 2)))) = (zBankN12 a i), (zBankN11 b i) = (zBankN11 b i), ([] : List Vse.Tok) = [], obB true ((0 : Int) ≤ i ∧ i < (2 : Int) * b.c1), okP (b.c0, b.c1, b.c2, b.c3, b.c4, b.c5, b.c6), i.tmod b.c6 = (2 : Int) ∧ 2 < 4, b.c6 ≠ (0 : Int), IntKind.i64.wrap (i.tdiv b.c6) = i.tdiv b.c6, (0 : Int) ≤ i.tdiv b.c6 ∧ i.tdiv b.c6 < ((nB b.c1.toNat 4 2 : Nat) : Int), List.map Sc.lv (List.take 2 (List.drop ((i.tdiv b.c6).toNat * 2) (bankS 4 b.W 2 (nB b.c1.toNat 4 2)))) = (zBankN13 b i), obB true (a.W (2 * i.toNat) = b.W (2 * i.toNat)), obB false (a.W (2 * i.toNat + 1) = b.W (2 * i.toNat + 1)), SameL (LoopState.done, some Code.ret, #[35, 36], sameA, sameB) (LoopState.done, some Code.ret, #[35, 36], sameA, sameB)] ++ tBankN13 a b) := by kernel_rfl
theorem dif_430 (a b : MM) (i : Int) : roundX P ctP 100 30 none (lpAt P 36 [1,1,0]) (mkS4 a b i) [.cmp true, .cmp true, .cmp true, .cmp false, .at 3, .idx, .at 3, .idx, .ld [.s .i64 (a.W (2 * i.toNat)), .s .i64 (a.W (2 * i.toNat + 1))], .ld [.s .i64 (b.W (2 * i.toNat)), .s .i64 (b.W (2 * i.toNat + 1))]] 23 [some 0, some 1, some 2, some 3, some 4, some 5, some 6, some 7, some 8, some 9, some 10, some 11, some 12, some 13, some 14, some 15, some 16, some 17, some 18, some 19, some 20, some 21, some 22] (finF4 a b) =
    some (Exit.ret, [obB true (i < a.c1 * (2 : Int)), (zBankN10 a i) = (zBankN10 a i), ([] : List Vse.Tok) = [], obB true ((0 : Int) ≤ i ∧ i < (2 : Int) * a.c1), okP (a.c0, a.c1, a.c2, a.c3, a.c4, a.c5, a.c6), i.tmod a.c6 = (3 : Int) ∧ 3 < 4, a.c6 ≠ (0 : Int), IntKind.i64.wrap (i.tdiv a.c6) = i.tdiv a.c6, (0 : Int) ≤ i.tdiv a.c6 ∧ i.tdiv a.c6 < ((nB a.c1.toNat 4 3 : Nat) : Int), List.map Sc.lv (List.take 2 (List.drop ((i.tdiv a.c6).toNat * 2) (bankS 4 a.W 3 (nB a.c1.toNat 4 3)))) = (zBankN12 a i), (zBankN11 b i) = (zBankN11 b i), ([] : List Vse.Tok) = [], obB true ((0 : Int) ≤ i ∧ i < (2 : Int) * b.c1), okP (b.c0, b.c1, b.c2, b.c3, b.c4, b.c5, b.c6), i.tmod b.c6 = (3 : Int) ∧ 3 < 4, b.c6 ≠ (0 : Int), IntKind.i64.wrap (i.tdiv b.c6) = i.tdiv b.c6, (0 : Int) ≤ i.tdiv b.c6 ∧ i.tdiv b.c6 < ((nB b.c1.toNat 4 3 : Nat) : Int), List.map Sc.lv (List.take 2 (List.drop ((i.tdiv b.c6).toNat * 2) (bankS 4 b.W 3 (nB b.c1.toNat 4 3)))) = (zBankN13 b i), obB false (a.W (2 * i.toNat) = b.W (2 * i.toNat)), SameL (LoopState.done, some Code.ret, #[35, 36], sameA, sameB) (LoopState.done, some Code.ret, #[35, 36], sameA, sameB)] ++ tBankN13 a b) := by kernel_rfl
theorem dif_431 (a b : MM) (i : Int) : roundX P ctP 100 30 none (lpAt P 36 [1,1,0]) (mkS4 a b i) [.cmp true, .cmp true, .cmp true, .cmp true, .cmp false, .at 3, .idx, .at 3, .idx, .ld [.s .i64 (a.W (2 * i.toNat)), .s .i64 (a.W (2 * i.toNat + 1))], .ld [.s .i64 (b.W (2 * i.toNat)), .s .i64 (b.W (2 * i.toNat + 1))]] 23 [some 0, some 1, some 2, some 3, some 4, some 5, some 6, some 7, some 8, some 9, some 10, some 11, some 12, some 13, some 14, some 15, some 16, some 17, some 18, some 19, some 20, some 21, some 22] (finF4 a b) =
    some (Exit.ret, [obB true (i < a.c1 * (2 : Int)), (zBankN10 a i) = (zBankN10 a i), ([] : List Vse.Tok) = [], obB true ((0 : Int) ≤ i ∧ i < (2 : Int) * a.c1), okP (a.c0, a.c1, a.c2, a.c3, a.c4, a.c5, a.c6), i.tmod a.c6 = (3 : Int) ∧ 3 < 4, a.c6 ≠ (0 : Int), IntKind.i64.wrap (i.tdiv a.c6) = i.tdiv a.c6, (0 : Int) ≤ i.tdiv a.c6 ∧ i.tdiv a.c6 < ((nB a.c1.toNat 4 3 : Nat) : Int), List.map Sc.lv (List.take 2 (List.drop ((i.tdiv a.c6).toNat * 2) (bankS 4 a.W 3 (nB a.c1.toNat 4 3)))) = (zBankN12 a i), (zBankN11 b i) = (zBankN11 b i), ([] : List Vse.Tok) = [], obB true ((0 : Int) ≤ i ∧ i < (2 : Int) * b.c1), okP (b.c0, b.c1, b.c2, b.c3, b.c4, b.c5, b.c6), i.tmod b.c6 = (3 : Int) ∧ 3 < 4, b.c6 ≠ (0 : Int), IntKind.i64.wrap (i.tdiv b.c6) = i.tdiv b.c6, (0 : Int) ≤ i.tdiv b.c6 ∧ i.tdiv b.c6 < ((nB b.c1.toNat 4 3 : Nat) : Int), List.map Sc.lv (List.take 2 (List.drop ((i.tdiv b.c6).toNat * 2) (bankS 4 b.W 3 (nB b.c1.toNat 4 3)))) = (zBankN13 b i), obB true (a.W (2 * i.toNat) = b.W (2 * i.toNat)), obB false (a.W (2 * i.toNat + 1) = b.W (2 * i.toNat + 1)), SameL (LoopState.done, some Code.ret, #[35, 36], sameA, sameB) (LoopState.done, some Code.ret, #[35, 36], sameA, sameB)] ++ tBankN13 a b) := by kernel_rfl
theorem least {p : Nat → Prop} : ∀ n, p n → ∃ i, p i ∧ ∀ j, j < i → ¬ p j := fun n => Nat.strongRecOn n (fun n ih h => by
  by_cases hx : ∃ j, j < n ∧ p j
  · obtain ⟨j, hj, hp⟩ := hx
    exact ih j hj hp
  · exact ⟨n, h, fun j hj hp => hx ⟨j, hj, hp⟩⟩)
/-- Where two memories go apart. -/
def DifW (a b : MM) (l : Nat) : Prop := l < 2 * a.c1.toNat ∧ (∀ i, i < 2 * l → a.W i = b.W i) ∧ (a.W (2 * l) ≠ b.W (2 * l) ∨ a.W (2 * l) = b.W (2 * l) ∧ a.W (2 * l + 1) ≠ b.W (2 * l + 1))
theorem dif_of {a b : MM} (h : ¬ SameW a b) : ∃ l, DifW a b l := by
  have : ∃ i, i < 4 * a.c1.toNat ∧ a.W i ≠ b.W i := by
    refine Classical.byContradiction fun hn => ?_
    exact h (fun i hi => Classical.byContradiction fun hc => hn ⟨i, hi, hc⟩)
  obtain ⟨n, hn⟩ := this
  obtain ⟨i, ⟨hi, hd⟩, hl⟩ := least (p := fun i => i < 4 * a.c1.toNat ∧ a.W i ≠ b.W i) n hn
  have hs : ∀ j, j < i → a.W j = b.W j := fun j hj => Classical.byContradiction fun hc => hl j hj ⟨by omega, hc⟩
  refine ⟨i / 2, by omega, fun j hj => hs j (by omega), ?_⟩
  rcases Nat.mod_two_eq_zero_or_one i with he | he
  · left; rw [show 2 * (i / 2) = i by omega]; exact hd
  · right; exact ⟨hs _ (by omega), by rw [show 2 * (i / 2) + 1 = i by omega]; exact hd⟩
noncomputable def difLp1 (a b : MM) (l : Nat) : LoopFn := lpOf 14 [some 0, some 1, some 2, some 3, some 4, some 5, some 6, some 7, some 8, some 9, some 10, some 11, some 12, some 13] none (fun _ => some ()) (fun _ => mkS1 a b 0) .ret (fun _ => finF1 a b) [0] (fun _ => [a.ok, b.ok, a.c6 = 1, b.c6 = 1, a.c1 = b.c1, DifW a b l])
theorem difLp1_ok (a b : MM) (l : Nat) : LoopOK P none (lpAt P 36 [1,1,0]) (difLp1 a b l) := lpOf_ok (fun _ hob => by
  simp only [AllP, and_true] at hob
  obtain ⟨ha, hb, hA, hB, h1, hL, hW, hD⟩ := hob
  have hc := ha.cf
  have hd := hb.cf
  have ho := ha
  simp only [MM.ok, okI] at ho
  have hst : ∀ n, n < l → Walk (cW P (lpAt P 36 [1,1,0])) none 14 (mkS1 a b ((n : Nat) : Int)) .normal (mkS1 a b ((n + 1 : Nat) : Int)) := fun n hn => by
    rw [Int.natCast_succ]
    have hi : (n : Int) < a.c1 * 2 := by omega
    have w0 : a.W (2 * ((n : Nat) : Int).toNat) = b.W (2 * ((n : Nat) : Int).toNat) := hW _ (by omega)
    have w1 : a.W (2 * ((n : Nat) : Int).toNat + 1) = b.W (2 * ((n : Nat) : Int).toNat + 1) := hW _ (by omega)
    have hj : ((n : Nat) : Int).toNat % 1 = 0 := by omega
    have hF0 : BkF a 1 (n : Int) 0 := ⟨hA, by omega, by omega, hj, by omega⟩
    have hF1 : BkF b 1 (n : Int) 0 := ⟨hB, by omega, by omega, hj, by omega⟩
    have hn0 := hF0.lt
    have hl0 := hF0.le
    have hd0 := hF0.div
    have hq0 : (n : Int).tdiv a.c6 < ((nB a.c1.toNat 1 0 : Nat) : Int) := by rw [hd0]; exact Int.ofNat_lt.2 hn0
    have hn1 := hF1.lt
    have hl1 := hF1.le
    have hd1 := hF1.div
    have hq1 : (n : Int).tdiv b.c6 < ((nB b.c1.toNat 1 0 : Nat) : Int) := by rw [hd1]; exact Int.ofNat_lt.2 hn1
    exact roundX_sound ctP_ok (same_10 a b n) (by (with_reducible repeat' first | refine AllP_app ?_ ?_ | exact AllP_nil | refine AllP_cons ?_ ?_ | refine And.intro ?_ ?_) <;> first | exact tBankF0_ok | exact tBankF1_ok | exact tBankF2_ok | exact tBankN10_ok | exact tBankN11_ok | exact tBankN12_ok | exact tBankN13_ok | rfl | assumption | exact hF0.mod | exact hF1.mod | exact hc | exact hd | exact hq0 | exact hq1 | exact line_ld hF0 hn0 | exact line_ld hF1 hn1 | exact obT w0 | exact obF w0 | exact obT w1 | exact obF w1 | exact obT hi | exact obT (by first | assumption | omega) | exact obF (by first | assumption | omega) | exact wrap_i64 (by omega) | omega)
  have hlast : Walk (cW P (lpAt P 36 [1,1,0])) none 14 (mkS1 a b ((l : Nat) : Int)) .ret (finF1 a b) := by
    generalize hnl : l = n at *
    have hi : (n : Int) < a.c1 * 2 := by omega
    have hj : ((n : Nat) : Int).toNat % 1 = 0 := by omega
    have hF0 : BkF a 1 (n : Int) 0 := ⟨hA, by omega, by omega, hj, by omega⟩
    have hF1 : BkF b 1 (n : Int) 0 := ⟨hB, by omega, by omega, hj, by omega⟩
    have hn0 := hF0.lt
    have hl0 := hF0.le
    have hd0 := hF0.div
    have hq0 : (n : Int).tdiv a.c6 < ((nB a.c1.toNat 1 0 : Nat) : Int) := by rw [hd0]; exact Int.ofNat_lt.2 hn0
    have hn1 := hF1.lt
    have hl1 := hF1.le
    have hd1 := hF1.div
    have hq1 : (n : Int).tdiv b.c6 < ((nB b.c1.toNat 1 0 : Nat) : Int) := by rw [hd1]; exact Int.ofNat_lt.2 hn1
    rcases hD with w0 | ⟨w0, w1⟩
    · exact roundX_sound ctP_ok (dif_100 a b n) (by (with_reducible repeat' first | refine AllP_app ?_ ?_ | exact AllP_nil | refine AllP_cons ?_ ?_ | refine And.intro ?_ ?_) <;> first | exact tBankF0_ok | exact tBankF1_ok | exact tBankF2_ok | exact tBankN10_ok | exact tBankN11_ok | exact tBankN12_ok | exact tBankN13_ok | rfl | assumption | exact hF0.mod | exact hF1.mod | exact hc | exact hd | exact hq0 | exact hq1 | exact line_ld hF0 hn0 | exact line_ld hF1 hn1 | exact obF w0 | exact obT hi | exact obT (by first | assumption | omega) | exact obF (by first | assumption | omega) | exact wrap_i64 (by omega) | omega)
    · exact roundX_sound ctP_ok (dif_101 a b n) (by (with_reducible repeat' first | refine AllP_app ?_ ?_ | exact AllP_nil | refine AllP_cons ?_ ?_ | refine And.intro ?_ ?_) <;> first | exact tBankF0_ok | exact tBankF1_ok | exact tBankF2_ok | exact tBankN10_ok | exact tBankN11_ok | exact tBankN12_ok | exact tBankN13_ok | rfl | assumption | exact hF0.mod | exact hF1.mod | exact hc | exact hd | exact hq0 | exact hq1 | exact line_ld hF0 hn0 | exact line_ld hF1 hn1 | exact obT w0 | exact obF w1 | exact obT hi | exact obT (by first | assumption | omega) | exact obF (by first | assumption | omega) | exact wrap_i64 (by omega) | omega)
  exact loop_walk (mk := fun n : Nat => mkS1 a b ((n : Nat) : Int)) (by simp) l (fun _ _ => rfl) hst hlast)
noncomputable def difLp2 (a b : MM) (l : Nat) : LoopFn := lpOf 17 [some 0, some 1, some 2, some 3, some 4, some 5, some 6, some 7, some 8, some 9, some 10, some 11, some 12, some 13, some 14, some 15, some 16] none (fun _ => some ()) (fun _ => mkS2 a b 0) .ret (fun _ => finF2 a b) [0] (fun _ => [a.ok, b.ok, a.c6 = 2, b.c6 = 2, a.c1 = b.c1, DifW a b l])
theorem difLp2_ok (a b : MM) (l : Nat) : LoopOK P none (lpAt P 36 [1,1,0]) (difLp2 a b l) := lpOf_ok (fun _ hob => by
  simp only [AllP, and_true] at hob
  obtain ⟨ha, hb, hA, hB, h1, hL, hW, hD⟩ := hob
  have hc := ha.cf
  have hd := hb.cf
  have ho := ha
  simp only [MM.ok, okI] at ho
  have hst : ∀ n, n < l → Walk (cW P (lpAt P 36 [1,1,0])) none 17 (mkS2 a b ((n : Nat) : Int)) .normal (mkS2 a b ((n + 1 : Nat) : Int)) := fun n hn => by
    rw [Int.natCast_succ]
    have hi : (n : Int) < a.c1 * 2 := by omega
    have w0 : a.W (2 * ((n : Nat) : Int).toNat) = b.W (2 * ((n : Nat) : Int).toNat) := hW _ (by omega)
    have w1 : a.W (2 * ((n : Nat) : Int).toNat + 1) = b.W (2 * ((n : Nat) : Int).toNat + 1) := hW _ (by omega)
    have hj : ((n : Nat) : Int).toNat % 2 = 0 ∨ ((n : Nat) : Int).toNat % 2 = 1 := by omega
    rcases hj with hj | hj
    · have hF0 : BkF a 2 (n : Int) 0 := ⟨hA, by omega, by omega, hj, by omega⟩
      have hF1 : BkF b 2 (n : Int) 0 := ⟨hB, by omega, by omega, hj, by omega⟩
      have hn0 := hF0.lt
      have hl0 := hF0.le
      have hd0 := hF0.div
      have hq0 : (n : Int).tdiv a.c6 < ((nB a.c1.toNat 2 0 : Nat) : Int) := by rw [hd0]; exact Int.ofNat_lt.2 hn0
      have hn1 := hF1.lt
      have hl1 := hF1.le
      have hd1 := hF1.div
      have hq1 : (n : Int).tdiv b.c6 < ((nB b.c1.toNat 2 0 : Nat) : Int) := by rw [hd1]; exact Int.ofNat_lt.2 hn1
      exact roundX_sound ctP_ok (same_20 a b n) (by (with_reducible repeat' first | refine AllP_app ?_ ?_ | exact AllP_nil | refine AllP_cons ?_ ?_ | refine And.intro ?_ ?_) <;> first | exact tBankF0_ok | exact tBankF1_ok | exact tBankF2_ok | exact tBankN10_ok | exact tBankN11_ok | exact tBankN12_ok | exact tBankN13_ok | rfl | assumption | exact hF0.mod | exact hF1.mod | exact hc | exact hd | exact hq0 | exact hq1 | exact line_ld hF0 hn0 | exact line_ld hF1 hn1 | exact obT w0 | exact obF w0 | exact obT w1 | exact obF w1 | exact obT hi | exact obT (by first | assumption | omega) | exact obF (by first | assumption | omega) | exact wrap_i64 (by omega) | omega)
    · have hF0 : BkF a 2 (n : Int) 1 := ⟨hA, by omega, by omega, hj, by omega⟩
      have hF1 : BkF b 2 (n : Int) 1 := ⟨hB, by omega, by omega, hj, by omega⟩
      have hn0 := hF0.lt
      have hl0 := hF0.le
      have hd0 := hF0.div
      have hq0 : (n : Int).tdiv a.c6 < ((nB a.c1.toNat 2 1 : Nat) : Int) := by rw [hd0]; exact Int.ofNat_lt.2 hn0
      have hn1 := hF1.lt
      have hl1 := hF1.le
      have hd1 := hF1.div
      have hq1 : (n : Int).tdiv b.c6 < ((nB b.c1.toNat 2 1 : Nat) : Int) := by rw [hd1]; exact Int.ofNat_lt.2 hn1
      exact roundX_sound ctP_ok (same_21 a b n) (by (with_reducible repeat' first | refine AllP_app ?_ ?_ | exact AllP_nil | refine AllP_cons ?_ ?_ | refine And.intro ?_ ?_) <;> first | exact tBankF0_ok | exact tBankF1_ok | exact tBankF2_ok | exact tBankN10_ok | exact tBankN11_ok | exact tBankN12_ok | exact tBankN13_ok | rfl | assumption | exact hF0.mod | exact hF1.mod | exact hc | exact hd | exact hq0 | exact hq1 | exact line_ld hF0 hn0 | exact line_ld hF1 hn1 | exact obT w0 | exact obF w0 | exact obT w1 | exact obF w1 | exact obT hi | exact obT (by first | assumption | omega) | exact obF (by first | assumption | omega) | exact wrap_i64 (by omega) | omega)
  have hlast : Walk (cW P (lpAt P 36 [1,1,0])) none 17 (mkS2 a b ((l : Nat) : Int)) .ret (finF2 a b) := by
    generalize hnl : l = n at *
    have hi : (n : Int) < a.c1 * 2 := by omega
    have hj : ((n : Nat) : Int).toNat % 2 = 0 ∨ ((n : Nat) : Int).toNat % 2 = 1 := by omega
    rcases hj with hj | hj
    · have hF0 : BkF a 2 (n : Int) 0 := ⟨hA, by omega, by omega, hj, by omega⟩
      have hF1 : BkF b 2 (n : Int) 0 := ⟨hB, by omega, by omega, hj, by omega⟩
      have hn0 := hF0.lt
      have hl0 := hF0.le
      have hd0 := hF0.div
      have hq0 : (n : Int).tdiv a.c6 < ((nB a.c1.toNat 2 0 : Nat) : Int) := by rw [hd0]; exact Int.ofNat_lt.2 hn0
      have hn1 := hF1.lt
      have hl1 := hF1.le
      have hd1 := hF1.div
      have hq1 : (n : Int).tdiv b.c6 < ((nB b.c1.toNat 2 0 : Nat) : Int) := by rw [hd1]; exact Int.ofNat_lt.2 hn1
      rcases hD with w0 | ⟨w0, w1⟩
      · exact roundX_sound ctP_ok (dif_200 a b n) (by (with_reducible repeat' first | refine AllP_app ?_ ?_ | exact AllP_nil | refine AllP_cons ?_ ?_ | refine And.intro ?_ ?_) <;> first | exact tBankF0_ok | exact tBankF1_ok | exact tBankF2_ok | exact tBankN10_ok | exact tBankN11_ok | exact tBankN12_ok | exact tBankN13_ok | rfl | assumption | exact hF0.mod | exact hF1.mod | exact hc | exact hd | exact hq0 | exact hq1 | exact line_ld hF0 hn0 | exact line_ld hF1 hn1 | exact obF w0 | exact obT hi | exact obT (by first | assumption | omega) | exact obF (by first | assumption | omega) | exact wrap_i64 (by omega) | omega)
      · exact roundX_sound ctP_ok (dif_201 a b n) (by (with_reducible repeat' first | refine AllP_app ?_ ?_ | exact AllP_nil | refine AllP_cons ?_ ?_ | refine And.intro ?_ ?_) <;> first | exact tBankF0_ok | exact tBankF1_ok | exact tBankF2_ok | exact tBankN10_ok | exact tBankN11_ok | exact tBankN12_ok | exact tBankN13_ok | rfl | assumption | exact hF0.mod | exact hF1.mod | exact hc | exact hd | exact hq0 | exact hq1 | exact line_ld hF0 hn0 | exact line_ld hF1 hn1 | exact obT w0 | exact obF w1 | exact obT hi | exact obT (by first | assumption | omega) | exact obF (by first | assumption | omega) | exact wrap_i64 (by omega) | omega)
    · have hF0 : BkF a 2 (n : Int) 1 := ⟨hA, by omega, by omega, hj, by omega⟩
      have hF1 : BkF b 2 (n : Int) 1 := ⟨hB, by omega, by omega, hj, by omega⟩
      have hn0 := hF0.lt
      have hl0 := hF0.le
      have hd0 := hF0.div
      have hq0 : (n : Int).tdiv a.c6 < ((nB a.c1.toNat 2 1 : Nat) : Int) := by rw [hd0]; exact Int.ofNat_lt.2 hn0
      have hn1 := hF1.lt
      have hl1 := hF1.le
      have hd1 := hF1.div
      have hq1 : (n : Int).tdiv b.c6 < ((nB b.c1.toNat 2 1 : Nat) : Int) := by rw [hd1]; exact Int.ofNat_lt.2 hn1
      rcases hD with w0 | ⟨w0, w1⟩
      · exact roundX_sound ctP_ok (dif_210 a b n) (by (with_reducible repeat' first | refine AllP_app ?_ ?_ | exact AllP_nil | refine AllP_cons ?_ ?_ | refine And.intro ?_ ?_) <;> first | exact tBankF0_ok | exact tBankF1_ok | exact tBankF2_ok | exact tBankN10_ok | exact tBankN11_ok | exact tBankN12_ok | exact tBankN13_ok | rfl | assumption | exact hF0.mod | exact hF1.mod | exact hc | exact hd | exact hq0 | exact hq1 | exact line_ld hF0 hn0 | exact line_ld hF1 hn1 | exact obF w0 | exact obT hi | exact obT (by first | assumption | omega) | exact obF (by first | assumption | omega) | exact wrap_i64 (by omega) | omega)
      · exact roundX_sound ctP_ok (dif_211 a b n) (by (with_reducible repeat' first | refine AllP_app ?_ ?_ | exact AllP_nil | refine AllP_cons ?_ ?_ | refine And.intro ?_ ?_) <;> first | exact tBankF0_ok | exact tBankF1_ok | exact tBankF2_ok | exact tBankN10_ok | exact tBankN11_ok | exact tBankN12_ok | exact tBankN13_ok | rfl | assumption | exact hF0.mod | exact hF1.mod | exact hc | exact hd | exact hq0 | exact hq1 | exact line_ld hF0 hn0 | exact line_ld hF1 hn1 | exact obT w0 | exact obF w1 | exact obT hi | exact obT (by first | assumption | omega) | exact obF (by first | assumption | omega) | exact wrap_i64 (by omega) | omega)
  exact loop_walk (mk := fun n : Nat => mkS2 a b ((n : Nat) : Int)) (by simp) l (fun _ _ => rfl) hst hlast)
noncomputable def difLp3 (a b : MM) (l : Nat) : LoopFn := lpOf 20 [some 0, some 1, some 2, some 3, some 4, some 5, some 6, some 7, some 8, some 9, some 10, some 11, some 12, some 13, some 14, some 15, some 16, some 17, some 18, some 19] none (fun _ => some ()) (fun _ => mkS3 a b 0) .ret (fun _ => finF3 a b) [0] (fun _ => [a.ok, b.ok, a.c6 = 3, b.c6 = 3, a.c1 = b.c1, DifW a b l])
theorem difLp3_ok (a b : MM) (l : Nat) : LoopOK P none (lpAt P 36 [1,1,0]) (difLp3 a b l) := lpOf_ok (fun _ hob => by
  simp only [AllP, and_true] at hob
  obtain ⟨ha, hb, hA, hB, h1, hL, hW, hD⟩ := hob
  have hc := ha.cf
  have hd := hb.cf
  have ho := ha
  simp only [MM.ok, okI] at ho
  have hst : ∀ n, n < l → Walk (cW P (lpAt P 36 [1,1,0])) none 20 (mkS3 a b ((n : Nat) : Int)) .normal (mkS3 a b ((n + 1 : Nat) : Int)) := fun n hn => by
    rw [Int.natCast_succ]
    have hi : (n : Int) < a.c1 * 2 := by omega
    have w0 : a.W (2 * ((n : Nat) : Int).toNat) = b.W (2 * ((n : Nat) : Int).toNat) := hW _ (by omega)
    have w1 : a.W (2 * ((n : Nat) : Int).toNat + 1) = b.W (2 * ((n : Nat) : Int).toNat + 1) := hW _ (by omega)
    have hj : ((n : Nat) : Int).toNat % 3 = 0 ∨ ((n : Nat) : Int).toNat % 3 = 1 ∨ ((n : Nat) : Int).toNat % 3 = 2 := by omega
    rcases hj with hj | hj | hj
    · have hF0 : BkF a 3 (n : Int) 0 := ⟨hA, by omega, by omega, hj, by omega⟩
      have hF1 : BkF b 3 (n : Int) 0 := ⟨hB, by omega, by omega, hj, by omega⟩
      have hn0 := hF0.lt
      have hl0 := hF0.le
      have hd0 := hF0.div
      have hq0 : (n : Int).tdiv a.c6 < ((nB a.c1.toNat 3 0 : Nat) : Int) := by rw [hd0]; exact Int.ofNat_lt.2 hn0
      have hn1 := hF1.lt
      have hl1 := hF1.le
      have hd1 := hF1.div
      have hq1 : (n : Int).tdiv b.c6 < ((nB b.c1.toNat 3 0 : Nat) : Int) := by rw [hd1]; exact Int.ofNat_lt.2 hn1
      exact roundX_sound ctP_ok (same_30 a b n) (by (with_reducible repeat' first | refine AllP_app ?_ ?_ | exact AllP_nil | refine AllP_cons ?_ ?_ | refine And.intro ?_ ?_) <;> first | exact tBankF0_ok | exact tBankF1_ok | exact tBankF2_ok | exact tBankN10_ok | exact tBankN11_ok | exact tBankN12_ok | exact tBankN13_ok | rfl | assumption | exact hF0.mod | exact hF1.mod | exact hc | exact hd | exact hq0 | exact hq1 | exact line_ld hF0 hn0 | exact line_ld hF1 hn1 | exact obT w0 | exact obF w0 | exact obT w1 | exact obF w1 | exact obT hi | exact obT (by first | assumption | omega) | exact obF (by first | assumption | omega) | exact wrap_i64 (by omega) | omega)
    · have hF0 : BkF a 3 (n : Int) 1 := ⟨hA, by omega, by omega, hj, by omega⟩
      have hF1 : BkF b 3 (n : Int) 1 := ⟨hB, by omega, by omega, hj, by omega⟩
      have hn0 := hF0.lt
      have hl0 := hF0.le
      have hd0 := hF0.div
      have hq0 : (n : Int).tdiv a.c6 < ((nB a.c1.toNat 3 1 : Nat) : Int) := by rw [hd0]; exact Int.ofNat_lt.2 hn0
      have hn1 := hF1.lt
      have hl1 := hF1.le
      have hd1 := hF1.div
      have hq1 : (n : Int).tdiv b.c6 < ((nB b.c1.toNat 3 1 : Nat) : Int) := by rw [hd1]; exact Int.ofNat_lt.2 hn1
      exact roundX_sound ctP_ok (same_31 a b n) (by (with_reducible repeat' first | refine AllP_app ?_ ?_ | exact AllP_nil | refine AllP_cons ?_ ?_ | refine And.intro ?_ ?_) <;> first | exact tBankF0_ok | exact tBankF1_ok | exact tBankF2_ok | exact tBankN10_ok | exact tBankN11_ok | exact tBankN12_ok | exact tBankN13_ok | rfl | assumption | exact hF0.mod | exact hF1.mod | exact hc | exact hd | exact hq0 | exact hq1 | exact line_ld hF0 hn0 | exact line_ld hF1 hn1 | exact obT w0 | exact obF w0 | exact obT w1 | exact obF w1 | exact obT hi | exact obT (by first | assumption | omega) | exact obF (by first | assumption | omega) | exact wrap_i64 (by omega) | omega)
    · have hF0 : BkF a 3 (n : Int) 2 := ⟨hA, by omega, by omega, hj, by omega⟩
      have hF1 : BkF b 3 (n : Int) 2 := ⟨hB, by omega, by omega, hj, by omega⟩
      have hn0 := hF0.lt
      have hl0 := hF0.le
      have hd0 := hF0.div
      have hq0 : (n : Int).tdiv a.c6 < ((nB a.c1.toNat 3 2 : Nat) : Int) := by rw [hd0]; exact Int.ofNat_lt.2 hn0
      have hn1 := hF1.lt
      have hl1 := hF1.le
      have hd1 := hF1.div
      have hq1 : (n : Int).tdiv b.c6 < ((nB b.c1.toNat 3 2 : Nat) : Int) := by rw [hd1]; exact Int.ofNat_lt.2 hn1
      exact roundX_sound ctP_ok (same_32 a b n) (by (with_reducible repeat' first | refine AllP_app ?_ ?_ | exact AllP_nil | refine AllP_cons ?_ ?_ | refine And.intro ?_ ?_) <;> first | exact tBankF0_ok | exact tBankF1_ok | exact tBankF2_ok | exact tBankN10_ok | exact tBankN11_ok | exact tBankN12_ok | exact tBankN13_ok | rfl | assumption | exact hF0.mod | exact hF1.mod | exact hc | exact hd | exact hq0 | exact hq1 | exact line_ld hF0 hn0 | exact line_ld hF1 hn1 | exact obT w0 | exact obF w0 | exact obT w1 | exact obF w1 | exact obT hi | exact obT (by first | assumption | omega) | exact obF (by first | assumption | omega) | exact wrap_i64 (by omega) | omega)
  have hlast : Walk (cW P (lpAt P 36 [1,1,0])) none 20 (mkS3 a b ((l : Nat) : Int)) .ret (finF3 a b) := by
    generalize hnl : l = n at *
    have hi : (n : Int) < a.c1 * 2 := by omega
    have hj : ((n : Nat) : Int).toNat % 3 = 0 ∨ ((n : Nat) : Int).toNat % 3 = 1 ∨ ((n : Nat) : Int).toNat % 3 = 2 := by omega
    rcases hj with hj | hj | hj
    · have hF0 : BkF a 3 (n : Int) 0 := ⟨hA, by omega, by omega, hj, by omega⟩
      have hF1 : BkF b 3 (n : Int) 0 := ⟨hB, by omega, by omega, hj, by omega⟩
      have hn0 := hF0.lt
      have hl0 := hF0.le
      have hd0 := hF0.div
      have hq0 : (n : Int).tdiv a.c6 < ((nB a.c1.toNat 3 0 : Nat) : Int) := by rw [hd0]; exact Int.ofNat_lt.2 hn0
      have hn1 := hF1.lt
      have hl1 := hF1.le
      have hd1 := hF1.div
      have hq1 : (n : Int).tdiv b.c6 < ((nB b.c1.toNat 3 0 : Nat) : Int) := by rw [hd1]; exact Int.ofNat_lt.2 hn1
      rcases hD with w0 | ⟨w0, w1⟩
      · exact roundX_sound ctP_ok (dif_300 a b n) (by (with_reducible repeat' first | refine AllP_app ?_ ?_ | exact AllP_nil | refine AllP_cons ?_ ?_ | refine And.intro ?_ ?_) <;> first | exact tBankF0_ok | exact tBankF1_ok | exact tBankF2_ok | exact tBankN10_ok | exact tBankN11_ok | exact tBankN12_ok | exact tBankN13_ok | rfl | assumption | exact hF0.mod | exact hF1.mod | exact hc | exact hd | exact hq0 | exact hq1 | exact line_ld hF0 hn0 | exact line_ld hF1 hn1 | exact obF w0 | exact obT hi | exact obT (by first | assumption | omega) | exact obF (by first | assumption | omega) | exact wrap_i64 (by omega) | omega)
      · exact roundX_sound ctP_ok (dif_301 a b n) (by (with_reducible repeat' first | refine AllP_app ?_ ?_ | exact AllP_nil | refine AllP_cons ?_ ?_ | refine And.intro ?_ ?_) <;> first | exact tBankF0_ok | exact tBankF1_ok | exact tBankF2_ok | exact tBankN10_ok | exact tBankN11_ok | exact tBankN12_ok | exact tBankN13_ok | rfl | assumption | exact hF0.mod | exact hF1.mod | exact hc | exact hd | exact hq0 | exact hq1 | exact line_ld hF0 hn0 | exact line_ld hF1 hn1 | exact obT w0 | exact obF w1 | exact obT hi | exact obT (by first | assumption | omega) | exact obF (by first | assumption | omega) | exact wrap_i64 (by omega) | omega)
    · have hF0 : BkF a 3 (n : Int) 1 := ⟨hA, by omega, by omega, hj, by omega⟩
      have hF1 : BkF b 3 (n : Int) 1 := ⟨hB, by omega, by omega, hj, by omega⟩
      have hn0 := hF0.lt
      have hl0 := hF0.le
      have hd0 := hF0.div
      have hq0 : (n : Int).tdiv a.c6 < ((nB a.c1.toNat 3 1 : Nat) : Int) := by rw [hd0]; exact Int.ofNat_lt.2 hn0
      have hn1 := hF1.lt
      have hl1 := hF1.le
      have hd1 := hF1.div
      have hq1 : (n : Int).tdiv b.c6 < ((nB b.c1.toNat 3 1 : Nat) : Int) := by rw [hd1]; exact Int.ofNat_lt.2 hn1
      rcases hD with w0 | ⟨w0, w1⟩
      · exact roundX_sound ctP_ok (dif_310 a b n) (by (with_reducible repeat' first | refine AllP_app ?_ ?_ | exact AllP_nil | refine AllP_cons ?_ ?_ | refine And.intro ?_ ?_) <;> first | exact tBankF0_ok | exact tBankF1_ok | exact tBankF2_ok | exact tBankN10_ok | exact tBankN11_ok | exact tBankN12_ok | exact tBankN13_ok | rfl | assumption | exact hF0.mod | exact hF1.mod | exact hc | exact hd | exact hq0 | exact hq1 | exact line_ld hF0 hn0 | exact line_ld hF1 hn1 | exact obF w0 | exact obT hi | exact obT (by first | assumption | omega) | exact obF (by first | assumption | omega) | exact wrap_i64 (by omega) | omega)
      · exact roundX_sound ctP_ok (dif_311 a b n) (by (with_reducible repeat' first | refine AllP_app ?_ ?_ | exact AllP_nil | refine AllP_cons ?_ ?_ | refine And.intro ?_ ?_) <;> first | exact tBankF0_ok | exact tBankF1_ok | exact tBankF2_ok | exact tBankN10_ok | exact tBankN11_ok | exact tBankN12_ok | exact tBankN13_ok | rfl | assumption | exact hF0.mod | exact hF1.mod | exact hc | exact hd | exact hq0 | exact hq1 | exact line_ld hF0 hn0 | exact line_ld hF1 hn1 | exact obT w0 | exact obF w1 | exact obT hi | exact obT (by first | assumption | omega) | exact obF (by first | assumption | omega) | exact wrap_i64 (by omega) | omega)
    · have hF0 : BkF a 3 (n : Int) 2 := ⟨hA, by omega, by omega, hj, by omega⟩
      have hF1 : BkF b 3 (n : Int) 2 := ⟨hB, by omega, by omega, hj, by omega⟩
      have hn0 := hF0.lt
      have hl0 := hF0.le
      have hd0 := hF0.div
      have hq0 : (n : Int).tdiv a.c6 < ((nB a.c1.toNat 3 2 : Nat) : Int) := by rw [hd0]; exact Int.ofNat_lt.2 hn0
      have hn1 := hF1.lt
      have hl1 := hF1.le
      have hd1 := hF1.div
      have hq1 : (n : Int).tdiv b.c6 < ((nB b.c1.toNat 3 2 : Nat) : Int) := by rw [hd1]; exact Int.ofNat_lt.2 hn1
      rcases hD with w0 | ⟨w0, w1⟩
      · exact roundX_sound ctP_ok (dif_320 a b n) (by (with_reducible repeat' first | refine AllP_app ?_ ?_ | exact AllP_nil | refine AllP_cons ?_ ?_ | refine And.intro ?_ ?_) <;> first | exact tBankF0_ok | exact tBankF1_ok | exact tBankF2_ok | exact tBankN10_ok | exact tBankN11_ok | exact tBankN12_ok | exact tBankN13_ok | rfl | assumption | exact hF0.mod | exact hF1.mod | exact hc | exact hd | exact hq0 | exact hq1 | exact line_ld hF0 hn0 | exact line_ld hF1 hn1 | exact obF w0 | exact obT hi | exact obT (by first | assumption | omega) | exact obF (by first | assumption | omega) | exact wrap_i64 (by omega) | omega)
      · exact roundX_sound ctP_ok (dif_321 a b n) (by (with_reducible repeat' first | refine AllP_app ?_ ?_ | exact AllP_nil | refine AllP_cons ?_ ?_ | refine And.intro ?_ ?_) <;> first | exact tBankF0_ok | exact tBankF1_ok | exact tBankF2_ok | exact tBankN10_ok | exact tBankN11_ok | exact tBankN12_ok | exact tBankN13_ok | rfl | assumption | exact hF0.mod | exact hF1.mod | exact hc | exact hd | exact hq0 | exact hq1 | exact line_ld hF0 hn0 | exact line_ld hF1 hn1 | exact obT w0 | exact obF w1 | exact obT hi | exact obT (by first | assumption | omega) | exact obF (by first | assumption | omega) | exact wrap_i64 (by omega) | omega)
  exact loop_walk (mk := fun n : Nat => mkS3 a b ((n : Nat) : Int)) (by simp) l (fun _ _ => rfl) hst hlast)
noncomputable def difLp4 (a b : MM) (l : Nat) : LoopFn := lpOf 23 [some 0, some 1, some 2, some 3, some 4, some 5, some 6, some 7, some 8, some 9, some 10, some 11, some 12, some 13, some 14, some 15, some 16, some 17, some 18, some 19, some 20, some 21, some 22] none (fun _ => some ()) (fun _ => mkS4 a b 0) .ret (fun _ => finF4 a b) [0] (fun _ => [a.ok, b.ok, a.c6 = 4, b.c6 = 4, a.c1 = b.c1, DifW a b l])
theorem difLp4_ok (a b : MM) (l : Nat) : LoopOK P none (lpAt P 36 [1,1,0]) (difLp4 a b l) := lpOf_ok (fun _ hob => by
  simp only [AllP, and_true] at hob
  obtain ⟨ha, hb, hA, hB, h1, hL, hW, hD⟩ := hob
  have hc := ha.cf
  have hd := hb.cf
  have ho := ha
  simp only [MM.ok, okI] at ho
  have hst : ∀ n, n < l → Walk (cW P (lpAt P 36 [1,1,0])) none 23 (mkS4 a b ((n : Nat) : Int)) .normal (mkS4 a b ((n + 1 : Nat) : Int)) := fun n hn => by
    rw [Int.natCast_succ]
    have hi : (n : Int) < a.c1 * 2 := by omega
    have w0 : a.W (2 * ((n : Nat) : Int).toNat) = b.W (2 * ((n : Nat) : Int).toNat) := hW _ (by omega)
    have w1 : a.W (2 * ((n : Nat) : Int).toNat + 1) = b.W (2 * ((n : Nat) : Int).toNat + 1) := hW _ (by omega)
    have hj : ((n : Nat) : Int).toNat % 4 = 0 ∨ ((n : Nat) : Int).toNat % 4 = 1 ∨ ((n : Nat) : Int).toNat % 4 = 2 ∨ ((n : Nat) : Int).toNat % 4 = 3 := by omega
    rcases hj with hj | hj | hj | hj
    · have hF0 : BkF a 4 (n : Int) 0 := ⟨hA, by omega, by omega, hj, by omega⟩
      have hF1 : BkF b 4 (n : Int) 0 := ⟨hB, by omega, by omega, hj, by omega⟩
      have hn0 := hF0.lt
      have hl0 := hF0.le
      have hd0 := hF0.div
      have hq0 : (n : Int).tdiv a.c6 < ((nB a.c1.toNat 4 0 : Nat) : Int) := by rw [hd0]; exact Int.ofNat_lt.2 hn0
      have hn1 := hF1.lt
      have hl1 := hF1.le
      have hd1 := hF1.div
      have hq1 : (n : Int).tdiv b.c6 < ((nB b.c1.toNat 4 0 : Nat) : Int) := by rw [hd1]; exact Int.ofNat_lt.2 hn1
      exact roundX_sound ctP_ok (same_40 a b n) (by (with_reducible repeat' first | refine AllP_app ?_ ?_ | exact AllP_nil | refine AllP_cons ?_ ?_ | refine And.intro ?_ ?_) <;> first | exact tBankF0_ok | exact tBankF1_ok | exact tBankF2_ok | exact tBankN10_ok | exact tBankN11_ok | exact tBankN12_ok | exact tBankN13_ok | rfl | assumption | exact hF0.mod | exact hF1.mod | exact hc | exact hd | exact hq0 | exact hq1 | exact line_ld hF0 hn0 | exact line_ld hF1 hn1 | exact obT w0 | exact obF w0 | exact obT w1 | exact obF w1 | exact obT hi | exact obT (by first | assumption | omega) | exact obF (by first | assumption | omega) | exact wrap_i64 (by omega) | omega)
    · have hF0 : BkF a 4 (n : Int) 1 := ⟨hA, by omega, by omega, hj, by omega⟩
      have hF1 : BkF b 4 (n : Int) 1 := ⟨hB, by omega, by omega, hj, by omega⟩
      have hn0 := hF0.lt
      have hl0 := hF0.le
      have hd0 := hF0.div
      have hq0 : (n : Int).tdiv a.c6 < ((nB a.c1.toNat 4 1 : Nat) : Int) := by rw [hd0]; exact Int.ofNat_lt.2 hn0
      have hn1 := hF1.lt
      have hl1 := hF1.le
      have hd1 := hF1.div
      have hq1 : (n : Int).tdiv b.c6 < ((nB b.c1.toNat 4 1 : Nat) : Int) := by rw [hd1]; exact Int.ofNat_lt.2 hn1
      exact roundX_sound ctP_ok (same_41 a b n) (by (with_reducible repeat' first | refine AllP_app ?_ ?_ | exact AllP_nil | refine AllP_cons ?_ ?_ | refine And.intro ?_ ?_) <;> first | exact tBankF0_ok | exact tBankF1_ok | exact tBankF2_ok | exact tBankN10_ok | exact tBankN11_ok | exact tBankN12_ok | exact tBankN13_ok | rfl | assumption | exact hF0.mod | exact hF1.mod | exact hc | exact hd | exact hq0 | exact hq1 | exact line_ld hF0 hn0 | exact line_ld hF1 hn1 | exact obT w0 | exact obF w0 | exact obT w1 | exact obF w1 | exact obT hi | exact obT (by first | assumption | omega) | exact obF (by first | assumption | omega) | exact wrap_i64 (by omega) | omega)
    · have hF0 : BkF a 4 (n : Int) 2 := ⟨hA, by omega, by omega, hj, by omega⟩
      have hF1 : BkF b 4 (n : Int) 2 := ⟨hB, by omega, by omega, hj, by omega⟩
      have hn0 := hF0.lt
      have hl0 := hF0.le
      have hd0 := hF0.div
      have hq0 : (n : Int).tdiv a.c6 < ((nB a.c1.toNat 4 2 : Nat) : Int) := by rw [hd0]; exact Int.ofNat_lt.2 hn0
      have hn1 := hF1.lt
      have hl1 := hF1.le
      have hd1 := hF1.div
      have hq1 : (n : Int).tdiv b.c6 < ((nB b.c1.toNat 4 2 : Nat) : Int) := by rw [hd1]; exact Int.ofNat_lt.2 hn1
      exact roundX_sound ctP_ok (same_42 a b n) (by (with_reducible repeat' first | refine AllP_app ?_ ?_ | exact AllP_nil | refine AllP_cons ?_ ?_ | refine And.intro ?_ ?_) <;> first | exact tBankF0_ok | exact tBankF1_ok | exact tBankF2_ok | exact tBankN10_ok | exact tBankN11_ok | exact tBankN12_ok | exact tBankN13_ok | rfl | assumption | exact hF0.mod | exact hF1.mod | exact hc | exact hd | exact hq0 | exact hq1 | exact line_ld hF0 hn0 | exact line_ld hF1 hn1 | exact obT w0 | exact obF w0 | exact obT w1 | exact obF w1 | exact obT hi | exact obT (by first | assumption | omega) | exact obF (by first | assumption | omega) | exact wrap_i64 (by omega) | omega)
    · have hF0 : BkF a 4 (n : Int) 3 := ⟨hA, by omega, by omega, hj, by omega⟩
      have hF1 : BkF b 4 (n : Int) 3 := ⟨hB, by omega, by omega, hj, by omega⟩
      have hn0 := hF0.lt
      have hl0 := hF0.le
      have hd0 := hF0.div
      have hq0 : (n : Int).tdiv a.c6 < ((nB a.c1.toNat 4 3 : Nat) : Int) := by rw [hd0]; exact Int.ofNat_lt.2 hn0
      have hn1 := hF1.lt
      have hl1 := hF1.le
      have hd1 := hF1.div
      have hq1 : (n : Int).tdiv b.c6 < ((nB b.c1.toNat 4 3 : Nat) : Int) := by rw [hd1]; exact Int.ofNat_lt.2 hn1
      exact roundX_sound ctP_ok (same_43 a b n) (by (with_reducible repeat' first | refine AllP_app ?_ ?_ | exact AllP_nil | refine AllP_cons ?_ ?_ | refine And.intro ?_ ?_) <;> first | exact tBankF0_ok | exact tBankF1_ok | exact tBankF2_ok | exact tBankN10_ok | exact tBankN11_ok | exact tBankN12_ok | exact tBankN13_ok | rfl | assumption | exact hF0.mod | exact hF1.mod | exact hc | exact hd | exact hq0 | exact hq1 | exact line_ld hF0 hn0 | exact line_ld hF1 hn1 | exact obT w0 | exact obF w0 | exact obT w1 | exact obF w1 | exact obT hi | exact obT (by first | assumption | omega) | exact obF (by first | assumption | omega) | exact wrap_i64 (by omega) | omega)
  have hlast : Walk (cW P (lpAt P 36 [1,1,0])) none 23 (mkS4 a b ((l : Nat) : Int)) .ret (finF4 a b) := by
    generalize hnl : l = n at *
    have hi : (n : Int) < a.c1 * 2 := by omega
    have hj : ((n : Nat) : Int).toNat % 4 = 0 ∨ ((n : Nat) : Int).toNat % 4 = 1 ∨ ((n : Nat) : Int).toNat % 4 = 2 ∨ ((n : Nat) : Int).toNat % 4 = 3 := by omega
    rcases hj with hj | hj | hj | hj
    · have hF0 : BkF a 4 (n : Int) 0 := ⟨hA, by omega, by omega, hj, by omega⟩
      have hF1 : BkF b 4 (n : Int) 0 := ⟨hB, by omega, by omega, hj, by omega⟩
      have hn0 := hF0.lt
      have hl0 := hF0.le
      have hd0 := hF0.div
      have hq0 : (n : Int).tdiv a.c6 < ((nB a.c1.toNat 4 0 : Nat) : Int) := by rw [hd0]; exact Int.ofNat_lt.2 hn0
      have hn1 := hF1.lt
      have hl1 := hF1.le
      have hd1 := hF1.div
      have hq1 : (n : Int).tdiv b.c6 < ((nB b.c1.toNat 4 0 : Nat) : Int) := by rw [hd1]; exact Int.ofNat_lt.2 hn1
      rcases hD with w0 | ⟨w0, w1⟩
      · exact roundX_sound ctP_ok (dif_400 a b n) (by (with_reducible repeat' first | refine AllP_app ?_ ?_ | exact AllP_nil | refine AllP_cons ?_ ?_ | refine And.intro ?_ ?_) <;> first | exact tBankF0_ok | exact tBankF1_ok | exact tBankF2_ok | exact tBankN10_ok | exact tBankN11_ok | exact tBankN12_ok | exact tBankN13_ok | rfl | assumption | exact hF0.mod | exact hF1.mod | exact hc | exact hd | exact hq0 | exact hq1 | exact line_ld hF0 hn0 | exact line_ld hF1 hn1 | exact obF w0 | exact obT hi | exact obT (by first | assumption | omega) | exact obF (by first | assumption | omega) | exact wrap_i64 (by omega) | omega)
      · exact roundX_sound ctP_ok (dif_401 a b n) (by (with_reducible repeat' first | refine AllP_app ?_ ?_ | exact AllP_nil | refine AllP_cons ?_ ?_ | refine And.intro ?_ ?_) <;> first | exact tBankF0_ok | exact tBankF1_ok | exact tBankF2_ok | exact tBankN10_ok | exact tBankN11_ok | exact tBankN12_ok | exact tBankN13_ok | rfl | assumption | exact hF0.mod | exact hF1.mod | exact hc | exact hd | exact hq0 | exact hq1 | exact line_ld hF0 hn0 | exact line_ld hF1 hn1 | exact obT w0 | exact obF w1 | exact obT hi | exact obT (by first | assumption | omega) | exact obF (by first | assumption | omega) | exact wrap_i64 (by omega) | omega)
    · have hF0 : BkF a 4 (n : Int) 1 := ⟨hA, by omega, by omega, hj, by omega⟩
      have hF1 : BkF b 4 (n : Int) 1 := ⟨hB, by omega, by omega, hj, by omega⟩
      have hn0 := hF0.lt
      have hl0 := hF0.le
      have hd0 := hF0.div
      have hq0 : (n : Int).tdiv a.c6 < ((nB a.c1.toNat 4 1 : Nat) : Int) := by rw [hd0]; exact Int.ofNat_lt.2 hn0
      have hn1 := hF1.lt
      have hl1 := hF1.le
      have hd1 := hF1.div
      have hq1 : (n : Int).tdiv b.c6 < ((nB b.c1.toNat 4 1 : Nat) : Int) := by rw [hd1]; exact Int.ofNat_lt.2 hn1
      rcases hD with w0 | ⟨w0, w1⟩
      · exact roundX_sound ctP_ok (dif_410 a b n) (by (with_reducible repeat' first | refine AllP_app ?_ ?_ | exact AllP_nil | refine AllP_cons ?_ ?_ | refine And.intro ?_ ?_) <;> first | exact tBankF0_ok | exact tBankF1_ok | exact tBankF2_ok | exact tBankN10_ok | exact tBankN11_ok | exact tBankN12_ok | exact tBankN13_ok | rfl | assumption | exact hF0.mod | exact hF1.mod | exact hc | exact hd | exact hq0 | exact hq1 | exact line_ld hF0 hn0 | exact line_ld hF1 hn1 | exact obF w0 | exact obT hi | exact obT (by first | assumption | omega) | exact obF (by first | assumption | omega) | exact wrap_i64 (by omega) | omega)
      · exact roundX_sound ctP_ok (dif_411 a b n) (by (with_reducible repeat' first | refine AllP_app ?_ ?_ | exact AllP_nil | refine AllP_cons ?_ ?_ | refine And.intro ?_ ?_) <;> first | exact tBankF0_ok | exact tBankF1_ok | exact tBankF2_ok | exact tBankN10_ok | exact tBankN11_ok | exact tBankN12_ok | exact tBankN13_ok | rfl | assumption | exact hF0.mod | exact hF1.mod | exact hc | exact hd | exact hq0 | exact hq1 | exact line_ld hF0 hn0 | exact line_ld hF1 hn1 | exact obT w0 | exact obF w1 | exact obT hi | exact obT (by first | assumption | omega) | exact obF (by first | assumption | omega) | exact wrap_i64 (by omega) | omega)
    · have hF0 : BkF a 4 (n : Int) 2 := ⟨hA, by omega, by omega, hj, by omega⟩
      have hF1 : BkF b 4 (n : Int) 2 := ⟨hB, by omega, by omega, hj, by omega⟩
      have hn0 := hF0.lt
      have hl0 := hF0.le
      have hd0 := hF0.div
      have hq0 : (n : Int).tdiv a.c6 < ((nB a.c1.toNat 4 2 : Nat) : Int) := by rw [hd0]; exact Int.ofNat_lt.2 hn0
      have hn1 := hF1.lt
      have hl1 := hF1.le
      have hd1 := hF1.div
      have hq1 : (n : Int).tdiv b.c6 < ((nB b.c1.toNat 4 2 : Nat) : Int) := by rw [hd1]; exact Int.ofNat_lt.2 hn1
      rcases hD with w0 | ⟨w0, w1⟩
      · exact roundX_sound ctP_ok (dif_420 a b n) (by (with_reducible repeat' first | refine AllP_app ?_ ?_ | exact AllP_nil | refine AllP_cons ?_ ?_ | refine And.intro ?_ ?_) <;> first | exact tBankF0_ok | exact tBankF1_ok | exact tBankF2_ok | exact tBankN10_ok | exact tBankN11_ok | exact tBankN12_ok | exact tBankN13_ok | rfl | assumption | exact hF0.mod | exact hF1.mod | exact hc | exact hd | exact hq0 | exact hq1 | exact line_ld hF0 hn0 | exact line_ld hF1 hn1 | exact obF w0 | exact obT hi | exact obT (by first | assumption | omega) | exact obF (by first | assumption | omega) | exact wrap_i64 (by omega) | omega)
      · exact roundX_sound ctP_ok (dif_421 a b n) (by (with_reducible repeat' first | refine AllP_app ?_ ?_ | exact AllP_nil | refine AllP_cons ?_ ?_ | refine And.intro ?_ ?_) <;> first | exact tBankF0_ok | exact tBankF1_ok | exact tBankF2_ok | exact tBankN10_ok | exact tBankN11_ok | exact tBankN12_ok | exact tBankN13_ok | rfl | assumption | exact hF0.mod | exact hF1.mod | exact hc | exact hd | exact hq0 | exact hq1 | exact line_ld hF0 hn0 | exact line_ld hF1 hn1 | exact obT w0 | exact obF w1 | exact obT hi | exact obT (by first | assumption | omega) | exact obF (by first | assumption | omega) | exact wrap_i64 (by omega) | omega)
    · have hF0 : BkF a 4 (n : Int) 3 := ⟨hA, by omega, by omega, hj, by omega⟩
      have hF1 : BkF b 4 (n : Int) 3 := ⟨hB, by omega, by omega, hj, by omega⟩
      have hn0 := hF0.lt
      have hl0 := hF0.le
      have hd0 := hF0.div
      have hq0 : (n : Int).tdiv a.c6 < ((nB a.c1.toNat 4 3 : Nat) : Int) := by rw [hd0]; exact Int.ofNat_lt.2 hn0
      have hn1 := hF1.lt
      have hl1 := hF1.le
      have hd1 := hF1.div
      have hq1 : (n : Int).tdiv b.c6 < ((nB b.c1.toNat 4 3 : Nat) : Int) := by rw [hd1]; exact Int.ofNat_lt.2 hn1
      rcases hD with w0 | ⟨w0, w1⟩
      · exact roundX_sound ctP_ok (dif_430 a b n) (by (with_reducible repeat' first | refine AllP_app ?_ ?_ | exact AllP_nil | refine AllP_cons ?_ ?_ | refine And.intro ?_ ?_) <;> first | exact tBankF0_ok | exact tBankF1_ok | exact tBankF2_ok | exact tBankN10_ok | exact tBankN11_ok | exact tBankN12_ok | exact tBankN13_ok | rfl | assumption | exact hF0.mod | exact hF1.mod | exact hc | exact hd | exact hq0 | exact hq1 | exact line_ld hF0 hn0 | exact line_ld hF1 hn1 | exact obF w0 | exact obT hi | exact obT (by first | assumption | omega) | exact obF (by first | assumption | omega) | exact wrap_i64 (by omega) | omega)
      · exact roundX_sound ctP_ok (dif_431 a b n) (by (with_reducible repeat' first | refine AllP_app ?_ ?_ | exact AllP_nil | refine AllP_cons ?_ ?_ | refine And.intro ?_ ?_) <;> first | exact tBankF0_ok | exact tBankF1_ok | exact tBankF2_ok | exact tBankN10_ok | exact tBankN11_ok | exact tBankN12_ok | exact tBankN13_ok | rfl | assumption | exact hF0.mod | exact hF1.mod | exact hc | exact hd | exact hq0 | exact hq1 | exact line_ld hF0 hn0 | exact line_ld hF1 hn1 | exact obT w0 | exact obF w1 | exact obT hi | exact obT (by first | assumption | omega) | exact obF (by first | assumption | omega) | exact wrap_i64 (by omega) | omega)
  exact loop_walk (mk := fun n : Nat => mkS4 a b ((n : Nat) : Int)) (by simp) l (fun _ _ => rfl) hst hlast)
end Go.Proofs.Ytpnfdndjaepbbaa
