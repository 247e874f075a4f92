/- What is known of a configuration: the two judges of it, at each way that it may go. -/
import Derived.Test.YtldcagmijjkabaaVseZ
import Derived.Test.YtldcagmijjkabaaRows
namespace Go.Proofs.Ytldcagmijjkabaa
open Go Go.Vse
set_option maxRecDepth 100000
abbrev cfg (c0 c1 c2 c3 c4 c5 c6 : Int) : LV := .agg [.s .i64 c0, .s .i64 c1, .s .i64 c2, .s .i64 c3, .s .i64 c4, .s .i64 c5, .s .i64 c6]
def fails (i : Nat) (hi : Bool) : List Ans := List.replicate (2 * i) (.cmp false) ++ (if hi then [.cmp false, .cmp true] else [.cmp true])
def ok14 : List Ans := List.replicate 14 (.cmp false)
/-- A configuration that may be. -/
def may (c0 c1 c2 c3 c4 c5 c6 : Int) : Prop := 1 ≤ c0 ∧ c0 ≤ 4 ∧ 1 ≤ c1 ∧ c1 ≤ 16 ∧ 1 ≤ c2 ∧ c2 ≤ 8 ∧ 1 ≤ c3 ∧ c3 ≤ 4 ∧ 1 ≤ c4 ∧ c4 ≤ 16 ∧ 1 ≤ c5 ∧ c5 ≤ 8 ∧ 1 ≤ c6 ∧ c6 ≤ 4

theorem check0l (c0 c1 c2 c3 c4 c5 c6 : Int) : outC (callX (runF Try.prog [] 100 20) (.fn 8) [cfg c0 c1 c2 c3 c4 c5 c6] [] 0 (fails 0 false)) = some (.i .i64 10, [], [], [obB true (c0 < 1)]) := by kernel_rfl
theorem check0h (c0 c1 c2 c3 c4 c5 c6 : Int) : outC (callX (runF Try.prog [] 100 20) (.fn 8) [cfg c0 c1 c2 c3 c4 c5 c6] [] 0 (fails 0 true)) = some (.i .i64 10, [], [], [obB false (c0 < 1), obB true (4 < c0)]) := by kernel_rfl
theorem check1l (c0 c1 c2 c3 c4 c5 c6 : Int) : outC (callX (runF Try.prog [] 100 20) (.fn 8) [cfg c0 c1 c2 c3 c4 c5 c6] [] 0 (fails 1 false)) = some (.i .i64 10, [], [], [obB false (c0 < 1), obB false (4 < c0), obB true (c1 < 1)]) := by kernel_rfl
theorem check1h (c0 c1 c2 c3 c4 c5 c6 : Int) : outC (callX (runF Try.prog [] 100 20) (.fn 8) [cfg c0 c1 c2 c3 c4 c5 c6] [] 0 (fails 1 true)) = some (.i .i64 10, [], [], [obB false (c0 < 1), obB false (4 < c0), obB false (c1 < 1), obB true (16 < c1)]) := by kernel_rfl
theorem check2l (c0 c1 c2 c3 c4 c5 c6 : Int) : outC (callX (runF Try.prog [] 100 20) (.fn 8) [cfg c0 c1 c2 c3 c4 c5 c6] [] 0 (fails 2 false)) = some (.i .i64 10, [], [], [obB false (c0 < 1), obB false (4 < c0), obB false (c1 < 1), obB false (16 < c1), obB true (c2 < 1)]) := by kernel_rfl
theorem check2h (c0 c1 c2 c3 c4 c5 c6 : Int) : outC (callX (runF Try.prog [] 100 20) (.fn 8) [cfg c0 c1 c2 c3 c4 c5 c6] [] 0 (fails 2 true)) = some (.i .i64 10, [], [], [obB false (c0 < 1), obB false (4 < c0), obB false (c1 < 1), obB false (16 < c1), obB false (c2 < 1), obB true (8 < c2)]) := by kernel_rfl
theorem check3l (c0 c1 c2 c3 c4 c5 c6 : Int) : outC (callX (runF Try.prog [] 100 20) (.fn 8) [cfg c0 c1 c2 c3 c4 c5 c6] [] 0 (fails 3 false)) = some (.i .i64 10, [], [], [obB false (c0 < 1), obB false (4 < c0), obB false (c1 < 1), obB false (16 < c1), obB false (c2 < 1), obB false (8 < c2), obB true (c3 < 1)]) := by kernel_rfl
theorem check3h (c0 c1 c2 c3 c4 c5 c6 : Int) : outC (callX (runF Try.prog [] 100 20) (.fn 8) [cfg c0 c1 c2 c3 c4 c5 c6] [] 0 (fails 3 true)) = some (.i .i64 10, [], [], [obB false (c0 < 1), obB false (4 < c0), obB false (c1 < 1), obB false (16 < c1), obB false (c2 < 1), obB false (8 < c2), obB false (c3 < 1), obB true (4 < c3)]) := by kernel_rfl
theorem check4l (c0 c1 c2 c3 c4 c5 c6 : Int) : outC (callX (runF Try.prog [] 100 20) (.fn 8) [cfg c0 c1 c2 c3 c4 c5 c6] [] 0 (fails 4 false)) = some (.i .i64 10, [], [], [obB false (c0 < 1), obB false (4 < c0), obB false (c1 < 1), obB false (16 < c1), obB false (c2 < 1), obB false (8 < c2), obB false (c3 < 1), obB false (4 < c3), obB true (c4 < 1)]) := by kernel_rfl
theorem check4h (c0 c1 c2 c3 c4 c5 c6 : Int) : outC (callX (runF Try.prog [] 100 20) (.fn 8) [cfg c0 c1 c2 c3 c4 c5 c6] [] 0 (fails 4 true)) = some (.i .i64 10, [], [], [obB false (c0 < 1), obB false (4 < c0), obB false (c1 < 1), obB false (16 < c1), obB false (c2 < 1), obB false (8 < c2), obB false (c3 < 1), obB false (4 < c3), obB false (c4 < 1), obB true (16 < c4)]) := by kernel_rfl
theorem check5l (c0 c1 c2 c3 c4 c5 c6 : Int) : outC (callX (runF Try.prog [] 100 20) (.fn 8) [cfg c0 c1 c2 c3 c4 c5 c6] [] 0 (fails 5 false)) = some (.i .i64 10, [], [], [obB false (c0 < 1), obB false (4 < c0), obB false (c1 < 1), obB false (16 < c1), obB false (c2 < 1), obB false (8 < c2), obB false (c3 < 1), obB false (4 < c3), obB false (c4 < 1), obB false (16 < c4), obB true (c5 < 1)]) := by kernel_rfl
theorem check5h (c0 c1 c2 c3 c4 c5 c6 : Int) : outC (callX (runF Try.prog [] 100 20) (.fn 8) [cfg c0 c1 c2 c3 c4 c5 c6] [] 0 (fails 5 true)) = some (.i .i64 10, [], [], [obB false (c0 < 1), obB false (4 < c0), obB false (c1 < 1), obB false (16 < c1), obB false (c2 < 1), obB false (8 < c2), obB false (c3 < 1), obB false (4 < c3), obB false (c4 < 1), obB false (16 < c4), obB false (c5 < 1), obB true (8 < c5)]) := by kernel_rfl
theorem check6l (c0 c1 c2 c3 c4 c5 c6 : Int) : outC (callX (runF Try.prog [] 100 20) (.fn 8) [cfg c0 c1 c2 c3 c4 c5 c6] [] 0 (fails 6 false)) = some (.i .i64 10, [], [], [obB false (c0 < 1), obB false (4 < c0), obB false (c1 < 1), obB false (16 < c1), obB false (c2 < 1), obB false (8 < c2), obB false (c3 < 1), obB false (4 < c3), obB false (c4 < 1), obB false (16 < c4), obB false (c5 < 1), obB false (8 < c5), obB true (c6 < 1)]) := by kernel_rfl
theorem check6h (c0 c1 c2 c3 c4 c5 c6 : Int) : outC (callX (runF Try.prog [] 100 20) (.fn 8) [cfg c0 c1 c2 c3 c4 c5 c6] [] 0 (fails 6 true)) = some (.i .i64 10, [], [], [obB false (c0 < 1), obB false (4 < c0), obB false (c1 < 1), obB false (16 < c1), obB false (c2 < 1), obB false (8 < c2), obB false (c3 < 1), obB false (4 < c3), obB false (c4 < 1), obB false (16 < c4), obB false (c5 < 1), obB false (8 < c5), obB false (c6 < 1), obB true (4 < c6)]) := by kernel_rfl
theorem checkok (c0 c1 c2 c3 c4 c5 c6 : Int) : outC (callX (runF Try.prog [] 100 20) (.fn 8) [cfg c0 c1 c2 c3 c4 c5 c6] [] 0 ok14) = some (.i .i64 0, [], [], [obB false (c0 < 1), obB false (4 < c0), obB false (c1 < 1), obB false (16 < c1), obB false (c2 < 1), obB false (8 < c2), obB false (c3 < 1), obB false (4 < c3), obB false (c4 < 1), obB false (16 < c4), obB false (c5 < 1), obB false (8 < c5), obB false (c6 < 1), obB false (4 < c6)]) := by kernel_rfl
theorem check_good (c0 c1 c2 c3 c4 c5 c6 : Int) (h : may c0 c1 c2 c3 c4 c5 c6) : PureOK Try.prog 8 [cfg c0 c1 c2 c3 c4 c5 c6] (.i .i64 0) := by
  refine pureOK_of (checkok c0 c1 c2 c3 c4 c5 c6) ?_
  simp only [may] at h
  simp only [AllP, obB, and_true]
  omega
theorem check_bad (c0 c1 c2 c3 c4 c5 c6 : Int) (h : ¬ may c0 c1 c2 c3 c4 c5 c6) : PureOK Try.prog 8 [cfg c0 c1 c2 c3 c4 c5 c6] (.i .i64 10) := by
  simp only [may] at h
  by_cases h0l : c0 < 1
  · exact pureOK_of (check0l c0 c1 c2 c3 c4 c5 c6) (by simp only [AllP, obB, and_true]; omega)
  by_cases h0h : 4 < c0
  · exact pureOK_of (check0h c0 c1 c2 c3 c4 c5 c6) (by simp only [AllP, obB, and_true]; omega)
  by_cases h1l : c1 < 1
  · exact pureOK_of (check1l c0 c1 c2 c3 c4 c5 c6) (by simp only [AllP, obB, and_true]; omega)
  by_cases h1h : 16 < c1
  · exact pureOK_of (check1h c0 c1 c2 c3 c4 c5 c6) (by simp only [AllP, obB, and_true]; omega)
  by_cases h2l : c2 < 1
  · exact pureOK_of (check2l c0 c1 c2 c3 c4 c5 c6) (by simp only [AllP, obB, and_true]; omega)
  by_cases h2h : 8 < c2
  · exact pureOK_of (check2h c0 c1 c2 c3 c4 c5 c6) (by simp only [AllP, obB, and_true]; omega)
  by_cases h3l : c3 < 1
  · exact pureOK_of (check3l c0 c1 c2 c3 c4 c5 c6) (by simp only [AllP, obB, and_true]; omega)
  by_cases h3h : 4 < c3
  · exact pureOK_of (check3h c0 c1 c2 c3 c4 c5 c6) (by simp only [AllP, obB, and_true]; omega)
  by_cases h4l : c4 < 1
  · exact pureOK_of (check4l c0 c1 c2 c3 c4 c5 c6) (by simp only [AllP, obB, and_true]; omega)
  by_cases h4h : 16 < c4
  · exact pureOK_of (check4h c0 c1 c2 c3 c4 c5 c6) (by simp only [AllP, obB, and_true]; omega)
  by_cases h5l : c5 < 1
  · exact pureOK_of (check5l c0 c1 c2 c3 c4 c5 c6) (by simp only [AllP, obB, and_true]; omega)
  by_cases h5h : 8 < c5
  · exact pureOK_of (check5h c0 c1 c2 c3 c4 c5 c6) (by simp only [AllP, obB, and_true]; omega)
  by_cases h6l : c6 < 1
  · exact pureOK_of (check6l c0 c1 c2 c3 c4 c5 c6) (by simp only [AllP, obB, and_true]; omega)
  by_cases h6h : 4 < c6
  · exact pureOK_of (check6h c0 c1 c2 c3 c4 c5 c6) (by simp only [AllP, obB, and_true]; omega)
  · exact absurd h (by omega)
theorem may0l (c0 c1 c2 c3 c4 c5 c6 : Int) : outC (callX (runF Try.prog [] 100 20) (.fn 19) [cfg c0 c1 c2 c3 c4 c5 c6] [] 0 (fails 0 false)) = some (.b false, [], [], [obB true (c0 < 1)]) := by kernel_rfl
theorem may0h (c0 c1 c2 c3 c4 c5 c6 : Int) : outC (callX (runF Try.prog [] 100 20) (.fn 19) [cfg c0 c1 c2 c3 c4 c5 c6] [] 0 (fails 0 true)) = some (.b false, [], [], [obB false (c0 < 1), obB true (4 < c0)]) := by kernel_rfl
theorem may1l (c0 c1 c2 c3 c4 c5 c6 : Int) : outC (callX (runF Try.prog [] 100 20) (.fn 19) [cfg c0 c1 c2 c3 c4 c5 c6] [] 0 (fails 1 false)) = some (.b false, [], [], [obB false (c0 < 1), obB false (4 < c0), obB true (c1 < 1)]) := by kernel_rfl
theorem may1h (c0 c1 c2 c3 c4 c5 c6 : Int) : outC (callX (runF Try.prog [] 100 20) (.fn 19) [cfg c0 c1 c2 c3 c4 c5 c6] [] 0 (fails 1 true)) = some (.b false, [], [], [obB false (c0 < 1), obB false (4 < c0), obB false (c1 < 1), obB true (16 < c1)]) := by kernel_rfl
theorem may2l (c0 c1 c2 c3 c4 c5 c6 : Int) : outC (callX (runF Try.prog [] 100 20) (.fn 19) [cfg c0 c1 c2 c3 c4 c5 c6] [] 0 (fails 2 false)) = some (.b false, [], [], [obB false (c0 < 1), obB false (4 < c0), obB false (c1 < 1), obB false (16 < c1), obB true (c2 < 1)]) := by kernel_rfl
theorem may2h (c0 c1 c2 c3 c4 c5 c6 : Int) : outC (callX (runF Try.prog [] 100 20) (.fn 19) [cfg c0 c1 c2 c3 c4 c5 c6] [] 0 (fails 2 true)) = some (.b false, [], [], [obB false (c0 < 1), obB false (4 < c0), obB false (c1 < 1), obB false (16 < c1), obB false (c2 < 1), obB true (8 < c2)]) := by kernel_rfl
theorem may3l (c0 c1 c2 c3 c4 c5 c6 : Int) : outC (callX (runF Try.prog [] 100 20) (.fn 19) [cfg c0 c1 c2 c3 c4 c5 c6] [] 0 (fails 3 false)) = some (.b false, [], [], [obB false (c0 < 1), obB false (4 < c0), obB false (c1 < 1), obB false (16 < c1), obB false (c2 < 1), obB false (8 < c2), obB true (c3 < 1)]) := by kernel_rfl
theorem may3h (c0 c1 c2 c3 c4 c5 c6 : Int) : outC (callX (runF Try.prog [] 100 20) (.fn 19) [cfg c0 c1 c2 c3 c4 c5 c6] [] 0 (fails 3 true)) = some (.b false, [], [], [obB false (c0 < 1), obB false (4 < c0), obB false (c1 < 1), obB false (16 < c1), obB false (c2 < 1), obB false (8 < c2), obB false (c3 < 1), obB true (4 < c3)]) := by kernel_rfl
theorem may4l (c0 c1 c2 c3 c4 c5 c6 : Int) : outC (callX (runF Try.prog [] 100 20) (.fn 19) [cfg c0 c1 c2 c3 c4 c5 c6] [] 0 (fails 4 false)) = some (.b false, [], [], [obB false (c0 < 1), obB false (4 < c0), obB false (c1 < 1), obB false (16 < c1), obB false (c2 < 1), obB false (8 < c2), obB false (c3 < 1), obB false (4 < c3), obB true (c4 < 1)]) := by kernel_rfl
theorem may4h (c0 c1 c2 c3 c4 c5 c6 : Int) : outC (callX (runF Try.prog [] 100 20) (.fn 19) [cfg c0 c1 c2 c3 c4 c5 c6] [] 0 (fails 4 true)) = some (.b false, [], [], [obB false (c0 < 1), obB false (4 < c0), obB false (c1 < 1), obB false (16 < c1), obB false (c2 < 1), obB false (8 < c2), obB false (c3 < 1), obB false (4 < c3), obB false (c4 < 1), obB true (16 < c4)]) := by kernel_rfl
theorem may5l (c0 c1 c2 c3 c4 c5 c6 : Int) : outC (callX (runF Try.prog [] 100 20) (.fn 19) [cfg c0 c1 c2 c3 c4 c5 c6] [] 0 (fails 5 false)) = some (.b false, [], [], [obB false (c0 < 1), obB false (4 < c0), obB false (c1 < 1), obB false (16 < c1), obB false (c2 < 1), obB false (8 < c2), obB false (c3 < 1), obB false (4 < c3), obB false (c4 < 1), obB false (16 < c4), obB true (c5 < 1)]) := by kernel_rfl
theorem may5h (c0 c1 c2 c3 c4 c5 c6 : Int) : outC (callX (runF Try.prog [] 100 20) (.fn 19) [cfg c0 c1 c2 c3 c4 c5 c6] [] 0 (fails 5 true)) = some (.b false, [], [], [obB false (c0 < 1), obB false (4 < c0), obB false (c1 < 1), obB false (16 < c1), obB false (c2 < 1), obB false (8 < c2), obB false (c3 < 1), obB false (4 < c3), obB false (c4 < 1), obB false (16 < c4), obB false (c5 < 1), obB true (8 < c5)]) := by kernel_rfl
theorem may6l (c0 c1 c2 c3 c4 c5 c6 : Int) : outC (callX (runF Try.prog [] 100 20) (.fn 19) [cfg c0 c1 c2 c3 c4 c5 c6] [] 0 (fails 6 false)) = some (.b false, [], [], [obB false (c0 < 1), obB false (4 < c0), obB false (c1 < 1), obB false (16 < c1), obB false (c2 < 1), obB false (8 < c2), obB false (c3 < 1), obB false (4 < c3), obB false (c4 < 1), obB false (16 < c4), obB false (c5 < 1), obB false (8 < c5), obB true (c6 < 1)]) := by kernel_rfl
theorem may6h (c0 c1 c2 c3 c4 c5 c6 : Int) : outC (callX (runF Try.prog [] 100 20) (.fn 19) [cfg c0 c1 c2 c3 c4 c5 c6] [] 0 (fails 6 true)) = some (.b false, [], [], [obB false (c0 < 1), obB false (4 < c0), obB false (c1 < 1), obB false (16 < c1), obB false (c2 < 1), obB false (8 < c2), obB false (c3 < 1), obB false (4 < c3), obB false (c4 < 1), obB false (16 < c4), obB false (c5 < 1), obB false (8 < c5), obB false (c6 < 1), obB true (4 < c6)]) := by kernel_rfl
theorem mayok (c0 c1 c2 c3 c4 c5 c6 : Int) : outC (callX (runF Try.prog [] 100 20) (.fn 19) [cfg c0 c1 c2 c3 c4 c5 c6] [] 0 ok14) = some (.b true, [], [], [obB false (c0 < 1), obB false (4 < c0), obB false (c1 < 1), obB false (16 < c1), obB false (c2 < 1), obB false (8 < c2), obB false (c3 < 1), obB false (4 < c3), obB false (c4 < 1), obB false (16 < c4), obB false (c5 < 1), obB false (8 < c5), obB false (c6 < 1), obB false (4 < c6)]) := by kernel_rfl
theorem may_good (c0 c1 c2 c3 c4 c5 c6 : Int) (h : may c0 c1 c2 c3 c4 c5 c6) : PureOK Try.prog 19 [cfg c0 c1 c2 c3 c4 c5 c6] (.b true) := by
  refine pureOK_of (mayok c0 c1 c2 c3 c4 c5 c6) ?_
  simp only [may] at h
  simp only [AllP, obB, and_true]
  omega
theorem may_bad (c0 c1 c2 c3 c4 c5 c6 : Int) (h : ¬ may c0 c1 c2 c3 c4 c5 c6) : PureOK Try.prog 19 [cfg c0 c1 c2 c3 c4 c5 c6] (.b false) := by
  simp only [may] at h
  by_cases h0l : c0 < 1
  · exact pureOK_of (may0l c0 c1 c2 c3 c4 c5 c6) (by simp only [AllP, obB, and_true]; omega)
  by_cases h0h : 4 < c0
  · exact pureOK_of (may0h c0 c1 c2 c3 c4 c5 c6) (by simp only [AllP, obB, and_true]; omega)
  by_cases h1l : c1 < 1
  · exact pureOK_of (may1l c0 c1 c2 c3 c4 c5 c6) (by simp only [AllP, obB, and_true]; omega)
  by_cases h1h : 16 < c1
  · exact pureOK_of (may1h c0 c1 c2 c3 c4 c5 c6) (by simp only [AllP, obB, and_true]; omega)
  by_cases h2l : c2 < 1
  · exact pureOK_of (may2l c0 c1 c2 c3 c4 c5 c6) (by simp only [AllP, obB, and_true]; omega)
  by_cases h2h : 8 < c2
  · exact pureOK_of (may2h c0 c1 c2 c3 c4 c5 c6) (by simp only [AllP, obB, and_true]; omega)
  by_cases h3l : c3 < 1
  · exact pureOK_of (may3l c0 c1 c2 c3 c4 c5 c6) (by simp only [AllP, obB, and_true]; omega)
  by_cases h3h : 4 < c3
  · exact pureOK_of (may3h c0 c1 c2 c3 c4 c5 c6) (by simp only [AllP, obB, and_true]; omega)
  by_cases h4l : c4 < 1
  · exact pureOK_of (may4l c0 c1 c2 c3 c4 c5 c6) (by simp only [AllP, obB, and_true]; omega)
  by_cases h4h : 16 < c4
  · exact pureOK_of (may4h c0 c1 c2 c3 c4 c5 c6) (by simp only [AllP, obB, and_true]; omega)
  by_cases h5l : c5 < 1
  · exact pureOK_of (may5l c0 c1 c2 c3 c4 c5 c6) (by simp only [AllP, obB, and_true]; omega)
  by_cases h5h : 8 < c5
  · exact pureOK_of (may5h c0 c1 c2 c3 c4 c5 c6) (by simp only [AllP, obB, and_true]; omega)
  by_cases h6l : c6 < 1
  · exact pureOK_of (may6l c0 c1 c2 c3 c4 c5 c6) (by simp only [AllP, obB, and_true]; omega)
  by_cases h6h : 4 < c6
  · exact pureOK_of (may6h c0 c1 c2 c3 c4 c5 c6) (by simp only [AllP, obB, and_true]; omega)
  · exact absurd h (by omega)
theorem awake_run : outC (callX (runF Try.prog [] 100 20) (.fn 11) [] [] 0 []) = some (.b true, [], [], []) := by kernel_rfl
theorem awake_ok : PureOK Try.prog 11 [] (.b true) := pureOK_of awake_run trivial
end Go.Proofs.Ytldcagmijjkabaa
