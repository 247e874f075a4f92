/- The document's memory: what its calls do. -/
import Derived.Test.YtpnfdndjaepbbaaBankF
namespace Go.Proofs.Ytpnfdndjaepbbaa
open Go Go.Vse
set_option maxRecDepth 100000
set_option maxHeartbeats 4000000
abbrev zBankG0 (a : MM) : List LV := [LV.so 1 (4 * a.c1.toNat) 1, sI a.c6, sI (a.R 0), sI (a.R 1), sI (a.R 2), sI (a.R 3), sI (a.Q 0), sI (a.Q 1), sI (a.Q 2), sI (a.Q 3)]
theorem wordS_length {W : Nat → Int} {n : Nat} : (wordS W n).length = n := by simp [wordS]
theorem wordS_get {W : Nat → Int} {n i : Nat} (h : i < n) : Option.map Sc.lv (wordS W n)[i]? = some (sI (W i)) := by
  unfold wordS; rw [List.getElem?_map, List.getElem?_range h]; rfl
theorem wordS_set {W : Nat → Int} {n i : Nat} {v : Int} : (wordS W n).set i (Sc.i .i64 v) = wordS (updW W i v) n := by
  apply List.ext_getElem?
  intro j
  rw [List.getElem?_set]
  by_cases hj : j < n
  · have e1 : (wordS (updW W i v) n)[j]? = some (.i .i64 (updW W i v j)) := by unfold wordS; rw [List.getElem?_map, List.getElem?_range hj]; rfl
    have e2 : (wordS W n)[j]? = some (.i .i64 (W j)) := by unfold wordS; rw [List.getElem?_map, List.getElem?_range hj]; rfl
    rw [e1, e2]
    by_cases h : i = j
    · subst h; rw [if_pos rfl, if_pos (by rw [wordS_length]; exact hj)]; simp [updW]
    · rw [if_neg h]; simp [updW, Ne.symm h]
  · have e1 : (wordS (updW W i v) n)[j]? = none := List.getElem?_eq_none (by rw [wordS_length]; omega)
    have e2 : (wordS W n)[j]? = none := List.getElem?_eq_none (by rw [wordS_length]; omega)
    rw [e1, e2]
    split
    · rename_i h; subst h; rw [if_neg (by rw [wordS_length]; exact hj)]
    · rfl
theorem wordS_spl {W : Nat → Int} {n i : Nat} {v : Int} (h : i < n) : spliceL (wordS W n) i [Sc.i .i64 v] = wordS (updW W i v) n := by
  rw [spliceL_one (by rw [wordS_length]; exact h), wordS_set]
theorem wordS_spl2 {W : Nat → Int} {n i j : Nat} {v y : Int} (h : i < n) (h' : j < n) : spliceL (spliceL (wordS W n) i [Sc.i .i64 v]) j [Sc.i .i64 y] = wordS (updW (updW W i v) j y) n := by
  rw [wordS_spl h, wordS_spl h']
theorem bk_lt {a : MM} (ha : a.ok) (x : Int) : bkM a x < 4 := by
  simp only [MM.ok, okI] at ha
  unfold bkM
  have := Nat.mod_lt x.toNat (show 0 < a.c6.toNat by omega)
  omega
theorem bk_mod {a : MM} (ha : a.ok) {x : Int} (h0 : 0 ≤ x) : x.tmod a.c6 = ((bkM a x : Nat) : Int) := by
  simp only [MM.ok, okI] at ha
  unfold bkM
  rw [Int.tmod_eq_emod_of_nonneg h0, Int.natCast_emod, Int.toNat_of_nonneg h0, Int.toNat_of_nonneg (by omega)]
theorem rread_lo (a : MM) (x v y : Int) : callR P noCt 100 30 28 [.p 0 0, .s .i64 x] (repR a) [.cmp true] [some 0, some 1] (.tup [.agg [.s .i64 0, .s .i64 0], .sb false]) (repR a) [0, 1] =
    some [obB true (x < (0 : Int)), 4 * a.c1.toNat = 4 * a.c1.toNat, a.c6 = a.c6, a.R 0 = a.R 0, a.R 1 = a.R 1, a.R 2 = a.R 2, a.R 3 = a.R 3, a.Q 0 = a.Q 0, a.Q 1 = a.Q 1, a.Q 2 = a.Q 2, a.Q 3 = a.Q 3, wordS a.W (4 * a.c1.toNat) = wordS a.W (4 * a.c1.toNat), (0 : Int) = (0 : Int), (0 : Int) = (0 : Int), false = false] := by kernel_rfl
theorem rread_hi (a : MM) (x v y : Int) : callR P noCt 100 30 28 [.p 0 0, .s .i64 x] (repR a) [.cmp false, .cmp true] [some 0, some 1] (.tup [.agg [.s .i64 0, .s .i64 0], .sb false]) (repR a) [0, 1] =
    some [obB false (x < (0 : Int)), (2 : Int) ≠ (0 : Int), IntKind.i64.wrap ((((4 * a.c1.toNat : Nat) : Int)).tdiv 2) = (((4 * a.c1.toNat : Nat) : Int)).tdiv 2, obB true ((((4 * a.c1.toNat : Nat) : Int)).tdiv 2 ≤ x), 4 * a.c1.toNat = 4 * a.c1.toNat, a.c6 = a.c6, a.R 0 = a.R 0, a.R 1 = a.R 1, a.R 2 = a.R 2, a.R 3 = a.R 3, a.Q 0 = a.Q 0, a.Q 1 = a.Q 1, a.Q 2 = a.Q 2, a.Q 3 = a.Q 3, wordS a.W (4 * a.c1.toNat) = wordS a.W (4 * a.c1.toNat), (0 : Int) = (0 : Int), (0 : Int) = (0 : Int), false = false] := by kernel_rfl
theorem rread_in (a : MM) (x v y : Int) : callR P noCt 100 30 28 [.p 0 0, .s .i64 x] (repR a) [.cmp false, .cmp false, .nw, .nw, .wr, .nw, .nw, .nw, .ld [.s .i64 (a.R (bkM a x))], .st [.so 1 (4 * a.c1.toNat) 1, .s .i64 a.c6, .s .i64 ((readM a x).R 0), .s .i64 ((readM a x).R 1), .s .i64 ((readM a x).R 2), .s .i64 ((readM a x).R 3), .s .i64 ((readM a x).Q 0), .s .i64 ((readM a x).Q 1), .s .i64 ((readM a x).Q 2), .s .i64 ((readM a x).Q 3)], .ld [.s .i64 (a.W (2 * x.toNat))], .ld [.s .i64 (a.W (2 * x.toNat + 1))]] [some 0, some 1] (.tup [.agg [.s .i64 (a.W (2 * x.toNat)), .s .i64 (a.W (2 * x.toNat + 1))], .sb true]) (repR (readM a x)) [0, 1] =
    some [obB false (x < (0 : Int)), (2 : Int) ≠ (0 : Int), IntKind.i64.wrap ((((4 * a.c1.toNat : Nat) : Int)).tdiv 2) = (((4 * a.c1.toNat : Nat) : Int)).tdiv 2, obB false ((((4 * a.c1.toNat : Nat) : Int)).tdiv 2 ≤ x), a.c6 ≠ (0 : Int), x.tmod a.c6 = x.tmod a.c6, (0 : Int) ≤ x.tmod a.c6 ∧ x.tmod a.c6 < (4 : Int), (zBankG0 a)[2 + (x.tmod a.c6).toNat * 1]? = some (sI (a.R (bkM a x))), (0 : Int) ≤ x.tmod a.c6 ∧ x.tmod a.c6 < (4 : Int), 2 + (x.tmod a.c6).toNat * 1 + 1 ≤ 10, spliceL (zBankG0 a) (2 + (x.tmod a.c6).toNat * 1) [sI (IntKind.i64.wrap (a.R (bkM a x) + (1 : Int)))] = [LV.so 1 (4 * a.c1.toNat) 1, sI a.c6, sI (incW a.R (bkM a x) 0), sI (incW a.R (bkM a x) 1), sI (incW a.R (bkM a x) 2), sI (incW a.R (bkM a x) 3), sI (a.Q 0), sI (a.Q 1), sI (a.Q 2), sI (a.Q 3)], IntKind.i64.wrap ((2 : Int) * x) = (2 : Int) * x, (0 : Int) ≤ (2 : Int) * x ∧ (2 : Int) * x < ((4 * a.c1.toNat : Nat) : Int), Option.map Sc.lv (wordS a.W (4 * a.c1.toNat))[((2 : Int) * x).toNat * 1]? = some (sI (a.W (2 * x.toNat))), IntKind.i64.wrap ((2 : Int) * x) = (2 : Int) * x, IntKind.i64.wrap ((2 : Int) * x + (1 : Int)) = (2 : Int) * x + (1 : Int), (0 : Int) ≤ (2 : Int) * x + (1 : Int) ∧ (2 : Int) * x + (1 : Int) < ((4 * a.c1.toNat : Nat) : Int), Option.map Sc.lv (wordS a.W (4 * a.c1.toNat))[((2 : Int) * x + (1 : Int)).toNat * 1]? = some (sI (a.W (2 * x.toNat + 1))), 4 * a.c1.toNat = 4 * a.c1.toNat, a.c6 = a.c6, incW a.R (bkM a x) 0 = incW a.R (bkM a x) 0, incW a.R (bkM a x) 1 = incW a.R (bkM a x) 1, incW a.R (bkM a x) 2 = incW a.R (bkM a x) 2, incW a.R (bkM a x) 3 = incW a.R (bkM a x) 3, a.Q 0 = a.Q 0, a.Q 1 = a.Q 1, a.Q 2 = a.Q 2, a.Q 3 = a.Q 3, wordS a.W (4 * a.c1.toNat) = wordS (readM a x).W (4 * a.c1.toNat), a.W (2 * x.toNat) = a.W (2 * x.toNat), a.W (2 * x.toNat + 1) = a.W (2 * x.toNat + 1), true = true] := by kernel_rfl
theorem rwrite_lo (a : MM) (x v y : Int) : callR P noCt 100 30 30 [.p 0 0, .s .i64 x, .agg [.s .i64 v, .s .i64 y]] (repR a) [.cmp true] [some 0, some 1] (.sb false) (repR a) [0, 1] =
    some [obB true (x < (0 : Int)), 4 * a.c1.toNat = 4 * a.c1.toNat, a.c6 = a.c6, a.R 0 = a.R 0, a.R 1 = a.R 1, a.R 2 = a.R 2, a.R 3 = a.R 3, a.Q 0 = a.Q 0, a.Q 1 = a.Q 1, a.Q 2 = a.Q 2, a.Q 3 = a.Q 3, wordS a.W (4 * a.c1.toNat) = wordS a.W (4 * a.c1.toNat), false = false] := by kernel_rfl
theorem rwrite_hi (a : MM) (x v y : Int) : callR P noCt 100 30 30 [.p 0 0, .s .i64 x, .agg [.s .i64 v, .s .i64 y]] (repR a) [.cmp false, .cmp true] [some 0, some 1] (.sb false) (repR a) [0, 1] =
    some [obB false (x < (0 : Int)), (2 : Int) ≠ (0 : Int), IntKind.i64.wrap ((((4 * a.c1.toNat : Nat) : Int)).tdiv 2) = (((4 * a.c1.toNat : Nat) : Int)).tdiv 2, obB true ((((4 * a.c1.toNat : Nat) : Int)).tdiv 2 ≤ x), 4 * a.c1.toNat = 4 * a.c1.toNat, a.c6 = a.c6, a.R 0 = a.R 0, a.R 1 = a.R 1, a.R 2 = a.R 2, a.R 3 = a.R 3, a.Q 0 = a.Q 0, a.Q 1 = a.Q 1, a.Q 2 = a.Q 2, a.Q 3 = a.Q 3, wordS a.W (4 * a.c1.toNat) = wordS a.W (4 * a.c1.toNat), false = false] := by kernel_rfl
theorem rwrite_in (a : MM) (x v y : Int) : callR P noCt 100 30 30 [.p 0 0, .s .i64 x, .agg [.s .i64 v, .s .i64 y]] (repR a) [.cmp false, .cmp false, .nw, .nw, .wr, .nw, .nw, .nw, .ld [.s .i64 (a.Q (bkM a x))], .st [.so 1 (4 * a.c1.toNat) 1, .s .i64 a.c6, .s .i64 ((writeM a x v y).R 0), .s .i64 ((writeM a x v y).R 1), .s .i64 ((writeM a x v y).R 2), .s .i64 ((writeM a x v y).R 3), .s .i64 ((writeM a x v y).Q 0), .s .i64 ((writeM a x v y).Q 1), .s .i64 ((writeM a x v y).Q 2), .s .i64 ((writeM a x v y).Q 3)]] [some 0, some 1] (.sb true) (repR (writeM a x v y)) [0, 1] =
    some [obB false (x < (0 : Int)), (2 : Int) ≠ (0 : Int), IntKind.i64.wrap ((((4 * a.c1.toNat : Nat) : Int)).tdiv 2) = (((4 * a.c1.toNat : Nat) : Int)).tdiv 2, obB false ((((4 * a.c1.toNat : Nat) : Int)).tdiv 2 ≤ x), a.c6 ≠ (0 : Int), x.tmod a.c6 = x.tmod a.c6, (0 : Int) ≤ x.tmod a.c6 ∧ x.tmod a.c6 < (4 : Int), (zBankG0 a)[6 + (x.tmod a.c6).toNat * 1]? = some (sI (a.Q (bkM a x))), (0 : Int) ≤ x.tmod a.c6 ∧ x.tmod a.c6 < (4 : Int), 6 + (x.tmod a.c6).toNat * 1 + 1 ≤ 10, spliceL (zBankG0 a) (6 + (x.tmod a.c6).toNat * 1) [sI (IntKind.i64.wrap (a.Q (bkM a x) + (1 : Int)))] = [LV.so 1 (4 * a.c1.toNat) 1, sI a.c6, sI (a.R 0), sI (a.R 1), sI (a.R 2), sI (a.R 3), sI (incW a.Q (bkM a x) 0), sI (incW a.Q (bkM a x) 1), sI (incW a.Q (bkM a x) 2), sI (incW a.Q (bkM a x) 3)], IntKind.i64.wrap ((2 : Int) * x) = (2 : Int) * x, (0 : Int) ≤ (2 : Int) * x ∧ (2 : Int) * x < ((4 * a.c1.toNat : Nat) : Int), ((2 : Int) * x).toNat * 1 + 1 ≤ (wordS a.W (4 * a.c1.toNat)).length, IntKind.i64.wrap ((2 : Int) * x) = (2 : Int) * x, IntKind.i64.wrap ((2 : Int) * x + (1 : Int)) = (2 : Int) * x + (1 : Int), (0 : Int) ≤ (2 : Int) * x + (1 : Int) ∧ (2 : Int) * x + (1 : Int) < ((4 * a.c1.toNat : Nat) : Int), ((2 : Int) * x + (1 : Int)).toNat * 1 + 1 ≤ (spliceL (wordS a.W (4 * a.c1.toNat)) (((2 : Int) * x).toNat * 1) [Sc.i IntKind.i64 v]).length, 4 * a.c1.toNat = 4 * a.c1.toNat, a.c6 = a.c6, a.R 0 = a.R 0, a.R 1 = a.R 1, a.R 2 = a.R 2, a.R 3 = a.R 3, incW a.Q (bkM a x) 0 = incW a.Q (bkM a x) 0, incW a.Q (bkM a x) 1 = incW a.Q (bkM a x) 1, incW a.Q (bkM a x) 2 = incW a.Q (bkM a x) 2, incW a.Q (bkM a x) 3 = incW a.Q (bkM a x) 3, spliceL (spliceL (wordS a.W (4 * a.c1.toNat)) (((2 : Int) * x).toNat * 1) [Sc.i IntKind.i64 v]) (((2 : Int) * x + (1 : Int)).toNat * 1) [Sc.i IntKind.i64 y] = wordS (writeM a x v y).W (4 * a.c1.toNat), true = true] := by kernel_rfl
theorem rread_trip {a : MM} (x v y : Int) (ha : a.ok) (r : Bool) (hr : obB r (0 ≤ x ∧ x < 2 * a.c1)) : FTrip P 28 [.p 0 0, .s .i64 x] (repR a) (bif r then .tup [.agg [.s .i64 (a.W (2 * x.toNat)), .s .i64 (a.W (2 * x.toNat + 1))], .b true] else .tup [.agg [.s .i64 0, .s .i64 0], .b false]) (bif r then repR (readM a x) else repR a) [0, 1] := by
  have ho := ha
  simp only [MM.ok, okI] at ho
  have hd : (((4 * a.c1.toNat : Nat) : Int)).tdiv 2 = 2 * a.c1 := by rw [Int.tdiv_eq_ediv_of_nonneg (by omega)]; omega
  cases r with
  | false =>
    have hr : ¬ (0 ≤ x ∧ x < 2 * a.c1) := hr
    by_cases h0 : x < 0
    · exact (FTrip.callR noCt_ok (rread_lo a x v y) (by (with_reducible repeat' first | exact AllP_nil | refine AllP_cons ?_ ?_ | refine And.intro ?_ ?_) <;> first | rfl | assumption | exact obT (by first | assumption | omega) | exact obF (by first | assumption | omega) | exact wrap_i64 (by omega) | omega)).val rfl
    · exact (FTrip.callR noCt_ok (rread_hi a x v y) (by (with_reducible repeat' first | exact AllP_nil | refine AllP_cons ?_ ?_ | refine And.intro ?_ ?_) <;> first | rfl | assumption | exact obT (by first | assumption | omega) | exact obF (by first | assumption | omega) | exact wrap_i64 (by omega) | omega)).val rfl
  | true =>
    have hr : 0 ≤ x ∧ x < 2 * a.c1 := hr
    have hq := bk_mod ha hr.1
    have hb := bk_lt ha x
    have hb4 : bkM a x = 0 ∨ bkM a x = 1 ∨ bkM a x = 2 ∨ bkM a x = 3 := by omega
    have e0 : ((2 : Int) * x).toNat * 1 = 2 * x.toNat := by omega
    have e1 : ((2 : Int) * x + (1 : Int)).toNat * 1 = 2 * x.toNat + 1 := by omega
    exact (FTrip.callR noCt_ok (rread_in a x v y) (by (with_reducible repeat' first | exact AllP_nil | refine AllP_cons ?_ ?_ | refine And.intro ?_ ?_) <;> first | rfl | assumption | (rw [hq, Int.toNat_natCast]; rcases hb4 with h | h | h | h <;> rw [h] <;> rfl) | (rw [e0]; exact wordS_get (by omega)) | (rw [e1]; exact wordS_get (by omega)) | (rw [e0, e1]; exact wordS_spl2 (by omega) (by omega)) | (rw [e0, wordS_spl (by omega), wordS_length]; omega) | (rw [e1, e0, wordS_spl (by omega), wordS_length]; omega) | (rw [e0, wordS_length]; omega) | exact obT (by first | assumption | omega) | exact obF (by first | assumption | omega) | exact wrap_i64 (by omega) | omega)).val rfl
theorem rwrite_trip {a : MM} (x v y : Int) (ha : a.ok) (r : Bool) (hr : obB r (0 ≤ x ∧ x < 2 * a.c1)) : FTrip P 30 [.p 0 0, .s .i64 x, .agg [.s .i64 v, .s .i64 y]] (repR a) (bif r then .b true else .b false) (bif r then repR (writeM a x v y) else repR a) [0, 1] := by
  have ho := ha
  simp only [MM.ok, okI] at ho
  have hd : (((4 * a.c1.toNat : Nat) : Int)).tdiv 2 = 2 * a.c1 := by rw [Int.tdiv_eq_ediv_of_nonneg (by omega)]; omega
  cases r with
  | false =>
    have hr : ¬ (0 ≤ x ∧ x < 2 * a.c1) := hr
    by_cases h0 : x < 0
    · exact (FTrip.callR noCt_ok (rwrite_lo a x v y) (by (with_reducible repeat' first | exact AllP_nil | refine AllP_cons ?_ ?_ | refine And.intro ?_ ?_) <;> first | rfl | assumption | exact obT (by first | assumption | omega) | exact obF (by first | assumption | omega) | exact wrap_i64 (by omega) | omega)).val rfl
    · exact (FTrip.callR noCt_ok (rwrite_hi a x v y) (by (with_reducible repeat' first | exact AllP_nil | refine AllP_cons ?_ ?_ | refine And.intro ?_ ?_) <;> first | rfl | assumption | exact obT (by first | assumption | omega) | exact obF (by first | assumption | omega) | exact wrap_i64 (by omega) | omega)).val rfl
  | true =>
    have hr : 0 ≤ x ∧ x < 2 * a.c1 := hr
    have hq := bk_mod ha hr.1
    have hb := bk_lt ha x
    have hb4 : bkM a x = 0 ∨ bkM a x = 1 ∨ bkM a x = 2 ∨ bkM a x = 3 := by omega
    have e0 : ((2 : Int) * x).toNat * 1 = 2 * x.toNat := by omega
    have e1 : ((2 : Int) * x + (1 : Int)).toNat * 1 = 2 * x.toNat + 1 := by omega
    exact (FTrip.callR noCt_ok (rwrite_in a x v y) (by (with_reducible repeat' first | exact AllP_nil | refine AllP_cons ?_ ?_ | refine And.intro ?_ ?_) <;> first | rfl | assumption | (rw [hq, Int.toNat_natCast]; rcases hb4 with h | h | h | h <;> rw [h] <;> rfl) | (rw [e0]; exact wordS_get (by omega)) | (rw [e1]; exact wordS_get (by omega)) | (rw [e0, e1]; exact wordS_spl2 (by omega) (by omega)) | (rw [e0, wordS_spl (by omega), wordS_length]; omega) | (rw [e1, e0, wordS_spl (by omega), wordS_length]; omega) | (rw [e0, wordS_length]; omega) | exact obT (by first | assumption | omega) | exact obF (by first | assumption | omega) | exact wrap_i64 (by omega) | omega)).val rfl
def getRef : List Vse.Tok → Option MM
  | [.cells _ _ [.so _ _ _, .s _ c6, .s _ r0, .s _ r1, .s _ r2, .s _ r3, .s _ q0, .s _ q1, .s _ q2, .s _ q3], .vec _ fs] => some ⟨0, (fs.length : Int).tdiv 4, 0, 0, 0, 0, c6, fun i => sA fs i, fun i => if i = 0 then r0 else if i = 1 then r1 else if i = 2 then r2 else r3, fun i => if i = 0 then q0 else if i = 1 then q1 else if i = 2 then q2 else q3⟩
  | _ => none
end Go.Proofs.Ytpnfdndjaepbbaa
