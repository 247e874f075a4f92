/- The law 'PlaceFinds' holds: for every configuration, word, line and place the law's function returns true, and all read as they did. -/
import Derived.Test.YtjjfnpidgochnaaFindsB
import Derived.OpenShut
import Derived.ProofKit
namespace Go.Proofs.Ytjjfnpidgochnaa
open Go Go.Vse Go.ChangeShapes Go.WideShapes Go.ChangeAt Go.RowKit
set_option maxRecDepth 100000
theorem finds_run1 (c0 c1 c2 c3 c4 c5 c6 word a b : Int) : outF (runF P ctB 100 20 (.fn 4) [cfg c0 c1 c2 c3 c4 c5 c6, .s .i64 word, .agg [.s .i64 a, .s .i64 b]] [] [.cmp false, .cmp false, .cmp false, .cmp false, .cmp false]) =
    some (LV.b true, [obB false (mayC c0 c1 c2 c3 c4 c5 c6 ∧ (0 : Int) ≤ word ∧ word < (4 : Int) * c1), obB false (mayC c0 c1 c2 c3 c4 c5 c6 ∧ (0 : Int) ≤ a ∧ a < (2 : Int) * c1 ∧ (0 : Int) ≤ b ∧ b < (2 : Int)), obB false (mayC c0 c1 c2 c3 c4 c5 c6 ∧ (0 : Int) ≤ a ∧ a < (2 : Int) * c1), obB false (mayC c0 c1 c2 c3 c4 c5 c6 ∧ (0 : Int) ≤ a ∧ a < (2 : Int) * c1), obB false (mayC c0 c1 c2 c3 c4 c5 c6)]) := by kernel_rfl
theorem finds_run2 (c0 c1 c2 c3 c4 c5 c6 word a b : Int) : outF (runF P ctB 100 20 (.fn 4) [cfg c0 c1 c2 c3 c4 c5 c6, .s .i64 word, .agg [.s .i64 a, .s .i64 b]] [] [.cmp false, .cmp false, .cmp false, .cmp false, .cmp true, .cmp false, .cmp false]) =
    some (LV.b true, [obB false (mayC c0 c1 c2 c3 c4 c5 c6 ∧ (0 : Int) ≤ word ∧ word < (4 : Int) * c1), obB false (mayC c0 c1 c2 c3 c4 c5 c6 ∧ (0 : Int) ≤ a ∧ a < (2 : Int) * c1 ∧ (0 : Int) ≤ b ∧ b < (2 : Int)), obB false (mayC c0 c1 c2 c3 c4 c5 c6 ∧ (0 : Int) ≤ a ∧ a < (2 : Int) * c1), obB false (mayC c0 c1 c2 c3 c4 c5 c6 ∧ (0 : Int) ≤ a ∧ a < (2 : Int) * c1), obB true (mayC c0 c1 c2 c3 c4 c5 c6), (0 : Int) ≤ c1 ∧ c1 ≤ (16 : Int), obB false ((0 : Int) ≤ word ∧ word < (4 : Int) * c1), (0 : Int) ≤ c1 ∧ c1 ≤ (16 : Int), obB false ((0 : Int) ≤ a ∧ a < (2 : Int) * c1)]) := by kernel_rfl
theorem finds_run3 (c0 c1 c2 c3 c4 c5 c6 word a b : Int) : outF (runF P ctB 100 20 (.fn 4) [cfg c0 c1 c2 c3 c4 c5 c6, .s .i64 word, .agg [.s .i64 a, .s .i64 b]] [] [.cmp false, .cmp false, .cmp true, .cmp true, .cmp true, .cmp false, .cmp true, .cmp false, .cmp true, .cmp true]) =
    some (LV.b true, [obB false (mayC c0 c1 c2 c3 c4 c5 c6 ∧ (0 : Int) ≤ word ∧ word < (4 : Int) * c1), obB false (mayC c0 c1 c2 c3 c4 c5 c6 ∧ (0 : Int) ≤ a ∧ a < (2 : Int) * c1 ∧ (0 : Int) ≤ b ∧ b < (2 : Int)), obB true (mayC c0 c1 c2 c3 c4 c5 c6 ∧ (0 : Int) ≤ a ∧ a < (2 : Int) * c1), obB true (mayC c0 c1 c2 c3 c4 c5 c6 ∧ (0 : Int) ≤ a ∧ a < (2 : Int) * c1), obB true (mayC c0 c1 c2 c3 c4 c5 c6), (0 : Int) ≤ c1 ∧ c1 ≤ (16 : Int), obB false ((0 : Int) ≤ word ∧ word < (4 : Int) * c1), (0 : Int) ≤ c1 ∧ c1 ≤ (16 : Int), obB true ((0 : Int) ≤ a ∧ a < (2 : Int) * c1), obB false (a.tdiv 2 < (0 : Int)), obB true (b < (0 : Int)), obB true (a.tdiv 2 = a.tdiv 2)]) := by kernel_rfl
theorem finds_run4 (c0 c1 c2 c3 c4 c5 c6 word a b : Int) : outF (runF P ctB 100 20 (.fn 4) [cfg c0 c1 c2 c3 c4 c5 c6, .s .i64 word, .agg [.s .i64 a, .s .i64 b]] [] [.cmp false, .cmp false, .cmp true, .cmp true, .cmp true, .cmp false, .cmp true, .cmp false, .cmp false, .cmp true, .cmp true]) =
    some (LV.b true, [obB false (mayC c0 c1 c2 c3 c4 c5 c6 ∧ (0 : Int) ≤ word ∧ word < (4 : Int) * c1), obB false (mayC c0 c1 c2 c3 c4 c5 c6 ∧ (0 : Int) ≤ a ∧ a < (2 : Int) * c1 ∧ (0 : Int) ≤ b ∧ b < (2 : Int)), obB true (mayC c0 c1 c2 c3 c4 c5 c6 ∧ (0 : Int) ≤ a ∧ a < (2 : Int) * c1), obB true (mayC c0 c1 c2 c3 c4 c5 c6 ∧ (0 : Int) ≤ a ∧ a < (2 : Int) * c1), obB true (mayC c0 c1 c2 c3 c4 c5 c6), (0 : Int) ≤ c1 ∧ c1 ≤ (16 : Int), obB false ((0 : Int) ≤ word ∧ word < (4 : Int) * c1), (0 : Int) ≤ c1 ∧ c1 ≤ (16 : Int), obB true ((0 : Int) ≤ a ∧ a < (2 : Int) * c1), obB false (a.tdiv 2 < (0 : Int)), obB false (b < (0 : Int)), obB true ((1 : Int) < b), obB true (a.tdiv 2 = a.tdiv 2)]) := by kernel_rfl
theorem finds_run12 (c0 c1 c2 c3 c4 c5 c6 word a b : Int) : outF (runF P ctB 100 20 (.fn 4) [cfg c0 c1 c2 c3 c4 c5 c6, .s .i64 word, .agg [.s .i64 a, .s .i64 b]] [] [.cmp false, .cmp true, .cmp true, .cmp true, .cmp true, .cmp false, .cmp true, .cmp false, .cmp false, .cmp false, .cmp true, .cmp true, .cmp true]) =
    some (LV.b true, [obB false (mayC c0 c1 c2 c3 c4 c5 c6 ∧ (0 : Int) ≤ word ∧ word < (4 : Int) * c1), obB true (mayC c0 c1 c2 c3 c4 c5 c6 ∧ (0 : Int) ≤ a ∧ a < (2 : Int) * c1 ∧ (0 : Int) ≤ b ∧ b < (2 : Int)), obB true (mayC c0 c1 c2 c3 c4 c5 c6 ∧ (0 : Int) ≤ a ∧ a < (2 : Int) * c1), obB true (mayC c0 c1 c2 c3 c4 c5 c6 ∧ (0 : Int) ≤ a ∧ a < (2 : Int) * c1), obB true (mayC c0 c1 c2 c3 c4 c5 c6), (0 : Int) ≤ c1 ∧ c1 ≤ (16 : Int), obB false ((0 : Int) ≤ word ∧ word < (4 : Int) * c1), (0 : Int) ≤ c1 ∧ c1 ≤ (16 : Int), obB true ((0 : Int) ≤ a ∧ a < (2 : Int) * c1), obB false (a.tdiv 2 < (0 : Int)), obB false (b < (0 : Int)), obB false ((1 : Int) < b), IntKind.i64.wrap ((2 : Int) * a) = (2 : Int) * a, IntKind.i64.wrap ((2 : Int) * a + b) = (2 : Int) * a + b, obB true (a * (2 : Int) + b = (2 : Int) * a + b), obB true (a.tdiv 2 = a.tdiv 2), c6 ≠ (0 : Int), a.tmod c6 = a.tmod c6, obB true (a.tmod c6 = a.tmod c6)]) := by kernel_rfl
theorem finds_run21 (c0 c1 c2 c3 c4 c5 c6 word a b : Int) : outF (runF P ctB 100 20 (.fn 4) [cfg c0 c1 c2 c3 c4 c5 c6, .s .i64 word, .agg [.s .i64 a, .s .i64 b]] [] [.cmp true, .cmp false, .cmp false, .cmp false, .cmp true, .cmp true, .cmp false, .cmp false, .cmp false]) =
    some (LV.b true, [obB true (mayC c0 c1 c2 c3 c4 c5 c6 ∧ (0 : Int) ≤ word ∧ word < (4 : Int) * c1), obB false (mayC c0 c1 c2 c3 c4 c5 c6 ∧ (0 : Int) ≤ a ∧ a < (2 : Int) * c1 ∧ (0 : Int) ≤ b ∧ b < (2 : Int)), obB false (mayC c0 c1 c2 c3 c4 c5 c6 ∧ (0 : Int) ≤ a ∧ a < (2 : Int) * c1), obB false (mayC c0 c1 c2 c3 c4 c5 c6 ∧ (0 : Int) ≤ a ∧ a < (2 : Int) * c1), obB true (mayC c0 c1 c2 c3 c4 c5 c6), (0 : Int) ≤ c1 ∧ c1 ≤ (16 : Int), obB true ((0 : Int) ≤ word ∧ word < (4 : Int) * c1), obB false (word.tdiv 2 ≠ word.tdiv 2), obB false (word.tmod 2 ≠ word.tmod 2), (0 : Int) ≤ c1 ∧ c1 ≤ (16 : Int), obB false ((0 : Int) ≤ a ∧ a < (2 : Int) * c1)]) := by kernel_rfl
theorem finds_run23 (c0 c1 c2 c3 c4 c5 c6 word a b : Int) : outF (runF P ctB 100 20 (.fn 4) [cfg c0 c1 c2 c3 c4 c5 c6, .s .i64 word, .agg [.s .i64 a, .s .i64 b]] [] [.cmp true, .cmp false, .cmp true, .cmp true, .cmp true, .cmp true, .cmp false, .cmp false, .cmp true, .cmp false, .cmp true, .cmp true]) =
    some (LV.b true, [obB true (mayC c0 c1 c2 c3 c4 c5 c6 ∧ (0 : Int) ≤ word ∧ word < (4 : Int) * c1), obB false (mayC c0 c1 c2 c3 c4 c5 c6 ∧ (0 : Int) ≤ a ∧ a < (2 : Int) * c1 ∧ (0 : Int) ≤ b ∧ b < (2 : Int)), obB true (mayC c0 c1 c2 c3 c4 c5 c6 ∧ (0 : Int) ≤ a ∧ a < (2 : Int) * c1), obB true (mayC c0 c1 c2 c3 c4 c5 c6 ∧ (0 : Int) ≤ a ∧ a < (2 : Int) * c1), obB true (mayC c0 c1 c2 c3 c4 c5 c6), (0 : Int) ≤ c1 ∧ c1 ≤ (16 : Int), obB true ((0 : Int) ≤ word ∧ word < (4 : Int) * c1), obB false (word.tdiv 2 ≠ word.tdiv 2), obB false (word.tmod 2 ≠ word.tmod 2), (0 : Int) ≤ c1 ∧ c1 ≤ (16 : Int), obB true ((0 : Int) ≤ a ∧ a < (2 : Int) * c1), obB false (a.tdiv 2 < (0 : Int)), obB true (b < (0 : Int)), obB true (a.tdiv 2 = a.tdiv 2)]) := by kernel_rfl
theorem finds_run24 (c0 c1 c2 c3 c4 c5 c6 word a b : Int) : outF (runF P ctB 100 20 (.fn 4) [cfg c0 c1 c2 c3 c4 c5 c6, .s .i64 word, .agg [.s .i64 a, .s .i64 b]] [] [.cmp true, .cmp false, .cmp true, .cmp true, .cmp true, .cmp true, .cmp false, .cmp false, .cmp true, .cmp false, .cmp false, .cmp true, .cmp true]) =
    some (LV.b true, [obB true (mayC c0 c1 c2 c3 c4 c5 c6 ∧ (0 : Int) ≤ word ∧ word < (4 : Int) * c1), obB false (mayC c0 c1 c2 c3 c4 c5 c6 ∧ (0 : Int) ≤ a ∧ a < (2 : Int) * c1 ∧ (0 : Int) ≤ b ∧ b < (2 : Int)), obB true (mayC c0 c1 c2 c3 c4 c5 c6 ∧ (0 : Int) ≤ a ∧ a < (2 : Int) * c1), obB true (mayC c0 c1 c2 c3 c4 c5 c6 ∧ (0 : Int) ≤ a ∧ a < (2 : Int) * c1), obB true (mayC c0 c1 c2 c3 c4 c5 c6), (0 : Int) ≤ c1 ∧ c1 ≤ (16 : Int), obB true ((0 : Int) ≤ word ∧ word < (4 : Int) * c1), obB false (word.tdiv 2 ≠ word.tdiv 2), obB false (word.tmod 2 ≠ word.tmod 2), (0 : Int) ≤ c1 ∧ c1 ≤ (16 : Int), obB true ((0 : Int) ≤ a ∧ a < (2 : Int) * c1), obB false (a.tdiv 2 < (0 : Int)), obB false (b < (0 : Int)), obB true ((1 : Int) < b), obB true (a.tdiv 2 = a.tdiv 2)]) := by kernel_rfl
theorem finds_run33 (c0 c1 c2 c3 c4 c5 c6 word a b : Int) : outF (runF P ctB 100 20 (.fn 4) [cfg c0 c1 c2 c3 c4 c5 c6, .s .i64 word, .agg [.s .i64 a, .s .i64 b]] [] [.cmp true, .cmp true, .cmp true, .cmp true, .cmp true, .cmp true, .cmp false, .cmp false, .cmp true, .cmp false, .cmp false, .cmp false, .cmp true, .cmp true, .cmp true]) =
    some (LV.b true, [obB true (mayC c0 c1 c2 c3 c4 c5 c6 ∧ (0 : Int) ≤ word ∧ word < (4 : Int) * c1), obB true (mayC c0 c1 c2 c3 c4 c5 c6 ∧ (0 : Int) ≤ a ∧ a < (2 : Int) * c1 ∧ (0 : Int) ≤ b ∧ b < (2 : Int)), obB true (mayC c0 c1 c2 c3 c4 c5 c6 ∧ (0 : Int) ≤ a ∧ a < (2 : Int) * c1), obB true (mayC c0 c1 c2 c3 c4 c5 c6 ∧ (0 : Int) ≤ a ∧ a < (2 : Int) * c1), obB true (mayC c0 c1 c2 c3 c4 c5 c6), (0 : Int) ≤ c1 ∧ c1 ≤ (16 : Int), obB true ((0 : Int) ≤ word ∧ word < (4 : Int) * c1), obB false (word.tdiv 2 ≠ word.tdiv 2), obB false (word.tmod 2 ≠ word.tmod 2), (0 : Int) ≤ c1 ∧ c1 ≤ (16 : Int), obB true ((0 : Int) ≤ a ∧ a < (2 : Int) * c1), obB false (a.tdiv 2 < (0 : Int)), obB false (b < (0 : Int)), obB false ((1 : Int) < b), IntKind.i64.wrap ((2 : Int) * a) = (2 : Int) * a, IntKind.i64.wrap ((2 : Int) * a + b) = (2 : Int) * a + b, obB true (a * (2 : Int) + b = (2 : Int) * a + b), obB true (a.tdiv 2 = a.tdiv 2), c6 ≠ (0 : Int), a.tmod c6 = a.tmod c6, obB true (a.tmod c6 = a.tmod c6)]) := by kernel_rfl
theorem finds_walk (c0 c1 c2 c3 c4 c5 c6 word a b : Int) (W : World) : Calls P 4 #[.agg #[.int .i64 c0, .int .i64 c1, .int .i64 c2, .int .i64 c3, .int .i64 c4, .int .i64 c5, .int .i64 c6], .int .i64 word, .agg #[.int .i64 a, .int .i64 b]] W (TrueBelow W) := by
  have hv : VRs (fun _ => (0, 0)) [cfg c0 c1 c2 c3 c4 c5 c6, .s .i64 word, .agg [.s .i64 a, .s .i64 b]] #[.agg #[.int .i64 c0, .int .i64 c1, .int .i64 c2, .int .i64 c3, .int .i64 c4, .int .i64 c5, .int .i64 c6], .int .i64 word, .agg #[.int .i64 a, .int .i64 b]].toList := by
    simp only [VRs, VR]
    exact ⟨_, _, rfl, ⟨_, rfl, _, _, rfl, rfl, _, _, rfl, rfl, _, _, rfl, rfl, _, _, rfl, rfl, _, _, rfl, rfl, _, _, rfl, rfl, _, _, rfl, rfl, rfl⟩, _, _, rfl, rfl, _, _, rfl, ⟨_, rfl, _, _, rfl, rfl, _, _, rfl, rfl, rfl⟩, rfl⟩
  have hw : wfL (al (memOf [])) [cfg c0 c1 c2 c3 c4 c5 c6, .s .i64 word, .agg [.s .i64 a, .s .i64 b]] := by simp [wfL, LV.wf]
  by_cases h0 : mayC c0 c1 c2 c3 c4 c5 c6 ∧ (0 : Int) ≤ word ∧ word < (4 : Int) * c1
  · by_cases h1 : mayC c0 c1 c2 c3 c4 c5 c6 ∧ (0 : Int) ≤ a ∧ a < (2 : Int) * c1 ∧ (0 : Int) ≤ b ∧ b < (2 : Int)
    · by_cases h2 : mayC c0 c1 c2 c3 c4 c5 c6 ∧ (0 : Int) ≤ a ∧ a < (2 : Int) * c1
      · by_cases h3 : mayC c0 c1 c2 c3 c4 c5 c6 ∧ (0 : Int) ≤ a ∧ a < (2 : Int) * c1
        · by_cases h4 : mayC c0 c1 c2 c3 c4 c5 c6
          · by_cases h5 : (0 : Int) ≤ word ∧ word < (4 : Int) * c1
            · by_cases h6 : word.tdiv 2 ≠ word.tdiv 2
              · try have e1 : word.tdiv 2 = word / 2 := Int.tdiv_eq_ediv_of_nonneg (by omega)
                try have e2 : word.tmod 2 = word % 2 := Int.tmod_eq_emod_of_nonneg (by omega)
                try have e3 : a.tdiv 2 = a / 2 := Int.tdiv_eq_ediv_of_nonneg (by omega)
                exfalso; first | (simp only [mayC] at *; omega) | simp_all
              · by_cases h7 : word.tmod 2 ≠ word.tmod 2
                · try have e1 : word.tdiv 2 = word / 2 := Int.tdiv_eq_ediv_of_nonneg (by omega)
                  try have e2 : word.tmod 2 = word % 2 := Int.tmod_eq_emod_of_nonneg (by omega)
                  try have e3 : a.tdiv 2 = a / 2 := Int.tdiv_eq_ediv_of_nonneg (by omega)
                  exfalso; first | (simp only [mayC] at *; omega) | simp_all
                · by_cases h8 : (0 : Int) ≤ a ∧ a < (2 : Int) * c1
                  · by_cases h9 : a.tdiv 2 < (0 : Int)
                    · by_cases h10 : a * (2 : Int) + b = (0 : Int)
                      · try have e1 : word.tdiv 2 = word / 2 := Int.tdiv_eq_ediv_of_nonneg (by omega)
                        try have e2 : word.tmod 2 = word % 2 := Int.tmod_eq_emod_of_nonneg (by omega)
                        try have e3 : a.tdiv 2 = a / 2 := Int.tdiv_eq_ediv_of_nonneg (by omega)
                        exfalso; first | (simp only [mayC] at *; omega) | simp_all
                      · try have e1 : word.tdiv 2 = word / 2 := Int.tdiv_eq_ediv_of_nonneg (by omega)
                        try have e2 : word.tmod 2 = word % 2 := Int.tmod_eq_emod_of_nonneg (by omega)
                        try have e3 : a.tdiv 2 = a / 2 := Int.tdiv_eq_ediv_of_nonneg (by omega)
                        exfalso; first | (simp only [mayC] at *; omega) | simp_all
                    · by_cases h10 : b < (0 : Int)
                      · exfalso; simp only [mayC] at *; omega
                      · by_cases h11 : (1 : Int) < b
                        · by_cases h12 : a * (2 : Int) + b = (0 : Int)
                          · try have e1 : word.tdiv 2 = word / 2 := Int.tdiv_eq_ediv_of_nonneg (by omega)
                            try have e2 : word.tmod 2 = word % 2 := Int.tmod_eq_emod_of_nonneg (by omega)
                            try have e3 : a.tdiv 2 = a / 2 := Int.tdiv_eq_ediv_of_nonneg (by omega)
                            exfalso; first | (simp only [mayC] at *; omega) | simp_all
                          · try have e1 : word.tdiv 2 = word / 2 := Int.tdiv_eq_ediv_of_nonneg (by omega)
                            try have e2 : word.tmod 2 = word % 2 := Int.tmod_eq_emod_of_nonneg (by omega)
                            try have e3 : a.tdiv 2 = a / 2 := Int.tdiv_eq_ediv_of_nonneg (by omega)
                            exfalso; first | (simp only [mayC] at *; omega) | simp_all
                        · by_cases h12 : a * (2 : Int) + b = (2 : Int) * a + b
                          · by_cases h13 : a.tdiv 2 = a.tdiv 2
                            · by_cases h14 : a.tmod c6 = a.tmod c6
                              · try have e1 : word.tdiv 2 = word / 2 := Int.tdiv_eq_ediv_of_nonneg (by omega)
                                try have e2 : word.tmod 2 = word % 2 := Int.tmod_eq_emod_of_nonneg (by omega)
                                try have e3 : a.tdiv 2 = a / 2 := Int.tdiv_eq_ediv_of_nonneg (by omega)
                                exact calls_of_out ctB_ok (finds_run33 c0 c1 c2 c3 c4 c5 c6 word a b) (by (repeat' first | exact trivial | refine And.intro ?_ ?_) <;> first | exact obT (by assumption) | exact obF (by assumption) | rfl | exact obT (by simp only [mayC] at *; omega) | exact obF (by simp only [mayC] at *; omega) | exact wrap_i64 (by simp only [mayC] at *; omega) | (simp only [mayC] at *; omega)) sim_none hv hw
                              · try have e1 : word.tdiv 2 = word / 2 := Int.tdiv_eq_ediv_of_nonneg (by omega)
                                try have e2 : word.tmod 2 = word % 2 := Int.tmod_eq_emod_of_nonneg (by omega)
                                try have e3 : a.tdiv 2 = a / 2 := Int.tdiv_eq_ediv_of_nonneg (by omega)
                                exfalso; first | (simp only [mayC] at *; omega) | simp_all
                            · try have e1 : word.tdiv 2 = word / 2 := Int.tdiv_eq_ediv_of_nonneg (by omega)
                              try have e2 : word.tmod 2 = word % 2 := Int.tmod_eq_emod_of_nonneg (by omega)
                              try have e3 : a.tdiv 2 = a / 2 := Int.tdiv_eq_ediv_of_nonneg (by omega)
                              exfalso; first | (simp only [mayC] at *; omega) | simp_all
                          · try have e1 : word.tdiv 2 = word / 2 := Int.tdiv_eq_ediv_of_nonneg (by omega)
                            try have e2 : word.tmod 2 = word % 2 := Int.tmod_eq_emod_of_nonneg (by omega)
                            try have e3 : a.tdiv 2 = a / 2 := Int.tdiv_eq_ediv_of_nonneg (by omega)
                            exfalso; first | (simp only [mayC] at *; omega) | simp_all
                  · exfalso; simp only [mayC] at *; omega
            · exfalso; simp only [mayC] at *; omega
          · exfalso; simp only [mayC] at *; omega
        · exfalso; simp only [mayC] at *; omega
      · exfalso; simp only [mayC] at *; omega
    · by_cases h2 : mayC c0 c1 c2 c3 c4 c5 c6 ∧ (0 : Int) ≤ a ∧ a < (2 : Int) * c1
      · by_cases h3 : mayC c0 c1 c2 c3 c4 c5 c6 ∧ (0 : Int) ≤ a ∧ a < (2 : Int) * c1
        · by_cases h4 : mayC c0 c1 c2 c3 c4 c5 c6
          · by_cases h5 : (0 : Int) ≤ word ∧ word < (4 : Int) * c1
            · by_cases h6 : word.tdiv 2 ≠ word.tdiv 2
              · try have e1 : word.tdiv 2 = word / 2 := Int.tdiv_eq_ediv_of_nonneg (by omega)
                try have e2 : word.tmod 2 = word % 2 := Int.tmod_eq_emod_of_nonneg (by omega)
                try have e3 : a.tdiv 2 = a / 2 := Int.tdiv_eq_ediv_of_nonneg (by omega)
                exfalso; first | (simp only [mayC] at *; omega) | simp_all
              · by_cases h7 : word.tmod 2 ≠ word.tmod 2
                · try have e1 : word.tdiv 2 = word / 2 := Int.tdiv_eq_ediv_of_nonneg (by omega)
                  try have e2 : word.tmod 2 = word % 2 := Int.tmod_eq_emod_of_nonneg (by omega)
                  try have e3 : a.tdiv 2 = a / 2 := Int.tdiv_eq_ediv_of_nonneg (by omega)
                  exfalso; first | (simp only [mayC] at *; omega) | simp_all
                · by_cases h8 : (0 : Int) ≤ a ∧ a < (2 : Int) * c1
                  · by_cases h9 : a.tdiv 2 < (0 : Int)
                    · by_cases h10 : a.tdiv 2 = (0 : Int)
                      · exfalso; simp only [mayC] at *; omega
                      · try have e1 : word.tdiv 2 = word / 2 := Int.tdiv_eq_ediv_of_nonneg (by omega)
                        try have e2 : word.tmod 2 = word % 2 := Int.tmod_eq_emod_of_nonneg (by omega)
                        try have e3 : a.tdiv 2 = a / 2 := Int.tdiv_eq_ediv_of_nonneg (by omega)
                        exfalso; first | (simp only [mayC] at *; omega) | simp_all
                    · by_cases h10 : b < (0 : Int)
                      · by_cases h11 : a.tdiv 2 = a.tdiv 2
                        · try have e1 : word.tdiv 2 = word / 2 := Int.tdiv_eq_ediv_of_nonneg (by omega)
                          try have e2 : word.tmod 2 = word % 2 := Int.tmod_eq_emod_of_nonneg (by omega)
                          try have e3 : a.tdiv 2 = a / 2 := Int.tdiv_eq_ediv_of_nonneg (by omega)
                          exact calls_of_out ctB_ok (finds_run23 c0 c1 c2 c3 c4 c5 c6 word a b) (by (repeat' first | exact trivial | refine And.intro ?_ ?_) <;> first | exact obT (by assumption) | exact obF (by assumption) | rfl | exact obT (by simp only [mayC] at *; omega) | exact obF (by simp only [mayC] at *; omega) | exact wrap_i64 (by simp only [mayC] at *; omega) | (simp only [mayC] at *; omega)) sim_none hv hw
                        · try have e1 : word.tdiv 2 = word / 2 := Int.tdiv_eq_ediv_of_nonneg (by omega)
                          try have e2 : word.tmod 2 = word % 2 := Int.tmod_eq_emod_of_nonneg (by omega)
                          try have e3 : a.tdiv 2 = a / 2 := Int.tdiv_eq_ediv_of_nonneg (by omega)
                          exfalso; first | (simp only [mayC] at *; omega) | simp_all
                      · by_cases h11 : (1 : Int) < b
                        · by_cases h12 : a.tdiv 2 = a.tdiv 2
                          · try have e1 : word.tdiv 2 = word / 2 := Int.tdiv_eq_ediv_of_nonneg (by omega)
                            try have e2 : word.tmod 2 = word % 2 := Int.tmod_eq_emod_of_nonneg (by omega)
                            try have e3 : a.tdiv 2 = a / 2 := Int.tdiv_eq_ediv_of_nonneg (by omega)
                            exact calls_of_out ctB_ok (finds_run24 c0 c1 c2 c3 c4 c5 c6 word a b) (by (repeat' first | exact trivial | refine And.intro ?_ ?_) <;> first | exact obT (by assumption) | exact obF (by assumption) | rfl | exact obT (by simp only [mayC] at *; omega) | exact obF (by simp only [mayC] at *; omega) | exact wrap_i64 (by simp only [mayC] at *; omega) | (simp only [mayC] at *; omega)) sim_none hv hw
                          · try have e1 : word.tdiv 2 = word / 2 := Int.tdiv_eq_ediv_of_nonneg (by omega)
                            try have e2 : word.tmod 2 = word % 2 := Int.tmod_eq_emod_of_nonneg (by omega)
                            try have e3 : a.tdiv 2 = a / 2 := Int.tdiv_eq_ediv_of_nonneg (by omega)
                            exfalso; first | (simp only [mayC] at *; omega) | simp_all
                        · by_cases h12 : (0 : Int) = (2 : Int) * a + b
                          · try have e1 : word.tdiv 2 = word / 2 := Int.tdiv_eq_ediv_of_nonneg (by omega)
                            try have e2 : word.tmod 2 = word % 2 := Int.tmod_eq_emod_of_nonneg (by omega)
                            try have e3 : a.tdiv 2 = a / 2 := Int.tdiv_eq_ediv_of_nonneg (by omega)
                            exfalso; first | (simp only [mayC] at *; omega) | simp_all
                          · try have e1 : word.tdiv 2 = word / 2 := Int.tdiv_eq_ediv_of_nonneg (by omega)
                            try have e2 : word.tmod 2 = word % 2 := Int.tmod_eq_emod_of_nonneg (by omega)
                            try have e3 : a.tdiv 2 = a / 2 := Int.tdiv_eq_ediv_of_nonneg (by omega)
                            exfalso; first | (simp only [mayC] at *; omega) | simp_all
                  · exfalso; simp only [mayC] at *; omega
            · exfalso; simp only [mayC] at *; omega
          · exfalso; simp only [mayC] at *; omega
        · exfalso; simp only [mayC] at *; omega
      · by_cases h3 : mayC c0 c1 c2 c3 c4 c5 c6 ∧ (0 : Int) ≤ a ∧ a < (2 : Int) * c1
        · exfalso; simp only [mayC] at *; omega
        · by_cases h4 : mayC c0 c1 c2 c3 c4 c5 c6
          · by_cases h5 : (0 : Int) ≤ word ∧ word < (4 : Int) * c1
            · by_cases h6 : word.tdiv 2 ≠ word.tdiv 2
              · try have e1 : word.tdiv 2 = word / 2 := Int.tdiv_eq_ediv_of_nonneg (by omega)
                try have e2 : word.tmod 2 = word % 2 := Int.tmod_eq_emod_of_nonneg (by omega)
                try have e3 : a.tdiv 2 = a / 2 := Int.tdiv_eq_ediv_of_nonneg (by omega)
                exfalso; first | (simp only [mayC] at *; omega) | simp_all
              · by_cases h7 : word.tmod 2 ≠ word.tmod 2
                · try have e1 : word.tdiv 2 = word / 2 := Int.tdiv_eq_ediv_of_nonneg (by omega)
                  try have e2 : word.tmod 2 = word % 2 := Int.tmod_eq_emod_of_nonneg (by omega)
                  try have e3 : a.tdiv 2 = a / 2 := Int.tdiv_eq_ediv_of_nonneg (by omega)
                  exfalso; first | (simp only [mayC] at *; omega) | simp_all
                · by_cases h8 : (0 : Int) ≤ a ∧ a < (2 : Int) * c1
                  · exfalso; simp only [mayC] at *; omega
                  · try have e1 : word.tdiv 2 = word / 2 := Int.tdiv_eq_ediv_of_nonneg (by omega)
                    try have e2 : word.tmod 2 = word % 2 := Int.tmod_eq_emod_of_nonneg (by omega)
                    try have e3 : a.tdiv 2 = a / 2 := Int.tdiv_eq_ediv_of_nonneg (by omega)
                    exact calls_of_out ctB_ok (finds_run21 c0 c1 c2 c3 c4 c5 c6 word a b) (by (repeat' first | exact trivial | refine And.intro ?_ ?_) <;> first | exact obT (by assumption) | exact obF (by assumption) | rfl | exact obT (by simp only [mayC] at *; omega) | exact obF (by simp only [mayC] at *; omega) | exact wrap_i64 (by simp only [mayC] at *; omega) | (simp only [mayC] at *; omega)) sim_none hv hw
            · exfalso; simp only [mayC] at *; omega
          · exfalso; simp only [mayC] at *; omega
  · by_cases h1 : mayC c0 c1 c2 c3 c4 c5 c6 ∧ (0 : Int) ≤ a ∧ a < (2 : Int) * c1 ∧ (0 : Int) ≤ b ∧ b < (2 : Int)
    · by_cases h2 : mayC c0 c1 c2 c3 c4 c5 c6 ∧ (0 : Int) ≤ a ∧ a < (2 : Int) * c1
      · by_cases h3 : mayC c0 c1 c2 c3 c4 c5 c6 ∧ (0 : Int) ≤ a ∧ a < (2 : Int) * c1
        · by_cases h4 : mayC c0 c1 c2 c3 c4 c5 c6
          · by_cases h5 : (0 : Int) ≤ word ∧ word < (4 : Int) * c1
            · exfalso; simp only [mayC] at *; omega
            · by_cases h6 : (0 : Int) ≤ a ∧ a < (2 : Int) * c1
              · by_cases h7 : a.tdiv 2 < (0 : Int)
                · by_cases h8 : a * (2 : Int) + b = (0 : Int)
                  · try have e1 : word.tdiv 2 = word / 2 := Int.tdiv_eq_ediv_of_nonneg (by omega)
                    try have e2 : word.tmod 2 = word % 2 := Int.tmod_eq_emod_of_nonneg (by omega)
                    try have e3 : a.tdiv 2 = a / 2 := Int.tdiv_eq_ediv_of_nonneg (by omega)
                    exfalso; first | (simp only [mayC] at *; omega) | simp_all
                  · try have e1 : word.tdiv 2 = word / 2 := Int.tdiv_eq_ediv_of_nonneg (by omega)
                    try have e2 : word.tmod 2 = word % 2 := Int.tmod_eq_emod_of_nonneg (by omega)
                    try have e3 : a.tdiv 2 = a / 2 := Int.tdiv_eq_ediv_of_nonneg (by omega)
                    exfalso; first | (simp only [mayC] at *; omega) | simp_all
                · by_cases h8 : b < (0 : Int)
                  · exfalso; simp only [mayC] at *; omega
                  · by_cases h9 : (1 : Int) < b
                    · by_cases h10 : a * (2 : Int) + b = (0 : Int)
                      · try have e1 : word.tdiv 2 = word / 2 := Int.tdiv_eq_ediv_of_nonneg (by omega)
                        try have e2 : word.tmod 2 = word % 2 := Int.tmod_eq_emod_of_nonneg (by omega)
                        try have e3 : a.tdiv 2 = a / 2 := Int.tdiv_eq_ediv_of_nonneg (by omega)
                        exfalso; first | (simp only [mayC] at *; omega) | simp_all
                      · try have e1 : word.tdiv 2 = word / 2 := Int.tdiv_eq_ediv_of_nonneg (by omega)
                        try have e2 : word.tmod 2 = word % 2 := Int.tmod_eq_emod_of_nonneg (by omega)
                        try have e3 : a.tdiv 2 = a / 2 := Int.tdiv_eq_ediv_of_nonneg (by omega)
                        exfalso; first | (simp only [mayC] at *; omega) | simp_all
                    · by_cases h10 : a * (2 : Int) + b = (2 : Int) * a + b
                      · by_cases h11 : a.tdiv 2 = a.tdiv 2
                        · by_cases h12 : a.tmod c6 = a.tmod c6
                          · try have e1 : word.tdiv 2 = word / 2 := Int.tdiv_eq_ediv_of_nonneg (by omega)
                            try have e2 : word.tmod 2 = word % 2 := Int.tmod_eq_emod_of_nonneg (by omega)
                            try have e3 : a.tdiv 2 = a / 2 := Int.tdiv_eq_ediv_of_nonneg (by omega)
                            exact calls_of_out ctB_ok (finds_run12 c0 c1 c2 c3 c4 c5 c6 word a b) (by (repeat' first | exact trivial | refine And.intro ?_ ?_) <;> first | exact obT (by assumption) | exact obF (by assumption) | rfl | exact obT (by simp only [mayC] at *; omega) | exact obF (by simp only [mayC] at *; omega) | exact wrap_i64 (by simp only [mayC] at *; omega) | (simp only [mayC] at *; omega)) sim_none hv hw
                          · try have e1 : word.tdiv 2 = word / 2 := Int.tdiv_eq_ediv_of_nonneg (by omega)
                            try have e2 : word.tmod 2 = word % 2 := Int.tmod_eq_emod_of_nonneg (by omega)
                            try have e3 : a.tdiv 2 = a / 2 := Int.tdiv_eq_ediv_of_nonneg (by omega)
                            exfalso; first | (simp only [mayC] at *; omega) | simp_all
                        · try have e1 : word.tdiv 2 = word / 2 := Int.tdiv_eq_ediv_of_nonneg (by omega)
                          try have e2 : word.tmod 2 = word % 2 := Int.tmod_eq_emod_of_nonneg (by omega)
                          try have e3 : a.tdiv 2 = a / 2 := Int.tdiv_eq_ediv_of_nonneg (by omega)
                          exfalso; first | (simp only [mayC] at *; omega) | simp_all
                      · try have e1 : word.tdiv 2 = word / 2 := Int.tdiv_eq_ediv_of_nonneg (by omega)
                        try have e2 : word.tmod 2 = word % 2 := Int.tmod_eq_emod_of_nonneg (by omega)
                        try have e3 : a.tdiv 2 = a / 2 := Int.tdiv_eq_ediv_of_nonneg (by omega)
                        exfalso; first | (simp only [mayC] at *; omega) | simp_all
              · exfalso; simp only [mayC] at *; omega
          · exfalso; simp only [mayC] at *; omega
        · exfalso; simp only [mayC] at *; omega
      · exfalso; simp only [mayC] at *; omega
    · by_cases h2 : mayC c0 c1 c2 c3 c4 c5 c6 ∧ (0 : Int) ≤ a ∧ a < (2 : Int) * c1
      · by_cases h3 : mayC c0 c1 c2 c3 c4 c5 c6 ∧ (0 : Int) ≤ a ∧ a < (2 : Int) * c1
        · by_cases h4 : mayC c0 c1 c2 c3 c4 c5 c6
          · by_cases h5 : (0 : Int) ≤ word ∧ word < (4 : Int) * c1
            · exfalso; simp only [mayC] at *; omega
            · by_cases h6 : (0 : Int) ≤ a ∧ a < (2 : Int) * c1
              · by_cases h7 : a.tdiv 2 < (0 : Int)
                · by_cases h8 : a.tdiv 2 = (0 : Int)
                  · exfalso; simp only [mayC] at *; omega
                  · try have e1 : word.tdiv 2 = word / 2 := Int.tdiv_eq_ediv_of_nonneg (by omega)
                    try have e2 : word.tmod 2 = word % 2 := Int.tmod_eq_emod_of_nonneg (by omega)
                    try have e3 : a.tdiv 2 = a / 2 := Int.tdiv_eq_ediv_of_nonneg (by omega)
                    exfalso; first | (simp only [mayC] at *; omega) | simp_all
                · by_cases h8 : b < (0 : Int)
                  · by_cases h9 : a.tdiv 2 = a.tdiv 2
                    · try have e1 : word.tdiv 2 = word / 2 := Int.tdiv_eq_ediv_of_nonneg (by omega)
                      try have e2 : word.tmod 2 = word % 2 := Int.tmod_eq_emod_of_nonneg (by omega)
                      try have e3 : a.tdiv 2 = a / 2 := Int.tdiv_eq_ediv_of_nonneg (by omega)
                      exact calls_of_out ctB_ok (finds_run3 c0 c1 c2 c3 c4 c5 c6 word a b) (by (repeat' first | exact trivial | refine And.intro ?_ ?_) <;> first | exact obT (by assumption) | exact obF (by assumption) | rfl | exact obT (by simp only [mayC] at *; omega) | exact obF (by simp only [mayC] at *; omega) | exact wrap_i64 (by simp only [mayC] at *; omega) | (simp only [mayC] at *; omega)) sim_none hv hw
                    · try have e1 : word.tdiv 2 = word / 2 := Int.tdiv_eq_ediv_of_nonneg (by omega)
                      try have e2 : word.tmod 2 = word % 2 := Int.tmod_eq_emod_of_nonneg (by omega)
                      try have e3 : a.tdiv 2 = a / 2 := Int.tdiv_eq_ediv_of_nonneg (by omega)
                      exfalso; first | (simp only [mayC] at *; omega) | simp_all
                  · by_cases h9 : (1 : Int) < b
                    · by_cases h10 : a.tdiv 2 = a.tdiv 2
                      · try have e1 : word.tdiv 2 = word / 2 := Int.tdiv_eq_ediv_of_nonneg (by omega)
                        try have e2 : word.tmod 2 = word % 2 := Int.tmod_eq_emod_of_nonneg (by omega)
                        try have e3 : a.tdiv 2 = a / 2 := Int.tdiv_eq_ediv_of_nonneg (by omega)
                        exact calls_of_out ctB_ok (finds_run4 c0 c1 c2 c3 c4 c5 c6 word a b) (by (repeat' first | exact trivial | refine And.intro ?_ ?_) <;> first | exact obT (by assumption) | exact obF (by assumption) | rfl | exact obT (by simp only [mayC] at *; omega) | exact obF (by simp only [mayC] at *; omega) | exact wrap_i64 (by simp only [mayC] at *; omega) | (simp only [mayC] at *; omega)) sim_none hv hw
                      · try have e1 : word.tdiv 2 = word / 2 := Int.tdiv_eq_ediv_of_nonneg (by omega)
                        try have e2 : word.tmod 2 = word % 2 := Int.tmod_eq_emod_of_nonneg (by omega)
                        try have e3 : a.tdiv 2 = a / 2 := Int.tdiv_eq_ediv_of_nonneg (by omega)
                        exfalso; first | (simp only [mayC] at *; omega) | simp_all
                    · by_cases h10 : (0 : Int) = (2 : Int) * a + b
                      · try have e1 : word.tdiv 2 = word / 2 := Int.tdiv_eq_ediv_of_nonneg (by omega)
                        try have e2 : word.tmod 2 = word % 2 := Int.tmod_eq_emod_of_nonneg (by omega)
                        try have e3 : a.tdiv 2 = a / 2 := Int.tdiv_eq_ediv_of_nonneg (by omega)
                        exfalso; first | (simp only [mayC] at *; omega) | simp_all
                      · try have e1 : word.tdiv 2 = word / 2 := Int.tdiv_eq_ediv_of_nonneg (by omega)
                        try have e2 : word.tmod 2 = word % 2 := Int.tmod_eq_emod_of_nonneg (by omega)
                        try have e3 : a.tdiv 2 = a / 2 := Int.tdiv_eq_ediv_of_nonneg (by omega)
                        exfalso; first | (simp only [mayC] at *; omega) | simp_all
              · exfalso; simp only [mayC] at *; omega
          · exfalso; simp only [mayC] at *; omega
        · exfalso; simp only [mayC] at *; omega
      · by_cases h3 : mayC c0 c1 c2 c3 c4 c5 c6 ∧ (0 : Int) ≤ a ∧ a < (2 : Int) * c1
        · exfalso; simp only [mayC] at *; omega
        · by_cases h4 : mayC c0 c1 c2 c3 c4 c5 c6
          · by_cases h5 : (0 : Int) ≤ word ∧ word < (4 : Int) * c1
            · exfalso; simp only [mayC] at *; omega
            · by_cases h6 : (0 : Int) ≤ a ∧ a < (2 : Int) * c1
              · exfalso; simp only [mayC] at *; omega
              · try have e1 : word.tdiv 2 = word / 2 := Int.tdiv_eq_ediv_of_nonneg (by omega)
                try have e2 : word.tmod 2 = word % 2 := Int.tmod_eq_emod_of_nonneg (by omega)
                try have e3 : a.tdiv 2 = a / 2 := Int.tdiv_eq_ediv_of_nonneg (by omega)
                exact calls_of_out ctB_ok (finds_run2 c0 c1 c2 c3 c4 c5 c6 word a b) (by (repeat' first | exact trivial | refine And.intro ?_ ?_) <;> first | exact obT (by assumption) | exact obF (by assumption) | rfl | exact obT (by simp only [mayC] at *; omega) | exact obF (by simp only [mayC] at *; omega) | exact wrap_i64 (by simp only [mayC] at *; omega) | (simp only [mayC] at *; omega)) sim_none hv hw
          · try have e1 : word.tdiv 2 = word / 2 := Int.tdiv_eq_ediv_of_nonneg (by omega)
            try have e2 : word.tmod 2 = word % 2 := Int.tmod_eq_emod_of_nonneg (by omega)
            try have e3 : a.tdiv 2 = a / 2 := Int.tdiv_eq_ediv_of_nonneg (by omega)
            exact calls_of_out ctB_ok (finds_run1 c0 c1 c2 c3 c4 c5 c6 word a b) (by (repeat' first | exact trivial | refine And.intro ?_ ?_) <;> first | exact obT (by assumption) | exact obF (by assumption) | rfl | exact obT (by simp only [mayC] at *; omega) | exact obF (by simp only [mayC] at *; omega) | exact wrap_i64 (by simp only [mayC] at *; omega) | (simp only [mayC] at *; omega)) sim_none hv hw
theorem own : ownKnob Try.prog.godebug = none := by kernel_rfl
theorem laidOut : laidOutB Try.prog = true := by kernel_rfl
theorem und4 : Try.prog.underlying 4 = some .bool := by kernel_rfl
theorem cells23 : flatK Try.prog 3 23 = some [.int .i64, .int .i64, .int .i64, .int .i64, .int .i64, .int .i64, .int .i64] := by kernel_rfl
theorem cells29 : flatK Try.prog 3 29 = some [.int .i64, .int .i64] := by kernel_rfl
theorem open_cfg {H : Type} {enc : TypeId × Value → H} {w : World} {r : Reach} {b0 : Nat} {base : Nat} {spare : Nat → Bool} {held : Bool} {v : Value} {d : DataW H} {ps : List MemPlace} (hv : Value.okWide Try.prog w r b0 23 v) (h : DataW.Trod enc Try.prog w base spare held 23 v d ps) :
    ∃ c0 c1 c2 c3 c4 c5 c6 : Int, v = .agg #[.int .i64 c0, .int .i64 c1, .int .i64 c2, .int .i64 c3, .int .i64 c4, .int .i64 c5, .int .i64 c6] := by
  obtain ⟨cs, hc, he⟩ := open_flat cells23 (by kernel_rfl) hv h
  rcases he with rfl | ⟨_, ha⟩
  · simp only [FKs, FK.ok] at hc
    obtain ⟨_, _, rfl, ⟨c0, rfl, _⟩, _, _, rfl, ⟨c1, rfl, _⟩, _, _, rfl, ⟨c2, rfl, _⟩, _, _, rfl, ⟨c3, rfl, _⟩, _, _, rfl, ⟨c4, rfl, _⟩, _, _, rfl, ⟨c5, rfl, _⟩, _, _, rfl, ⟨c6, rfl, _⟩, rfl⟩ := hc
    exact ⟨c0, c1, c2, c3, c4, c5, c6, rfl⟩
  · exact absurd (ha.symm.trans (show aggB Try.prog 23 = some true by kernel_rfl)) (by simp)

theorem open_two {H : Type} {enc : TypeId × Value → H} {w : World} {r : Reach} {b0 : Nat} {base : Nat} {spare : Nat → Bool} {held : Bool} {v : Value} {d : DataW H} {ps : List MemPlace} (hv : Value.okWide Try.prog w r b0 29 v) (h : DataW.Trod enc Try.prog w base spare held 29 v d ps) :
    ∃ a b : Int, v = .agg #[.int .i64 a, .int .i64 b] := by
  obtain ⟨cs, hc, he⟩ := open_flat cells29 (by kernel_rfl) hv h
  rcases he with rfl | ⟨_, ha⟩
  · simp only [FKs, FK.ok] at hc
    obtain ⟨_, _, rfl, ⟨a, rfl, _⟩, _, _, rfl, ⟨b, rfl, _⟩, rfl⟩ := hc
    exact ⟨a, b, rfl⟩
  · exact absurd (ha.symm.trans (show aggB Try.prog 29 = some true by kernel_rfl)) (by simp)

theorem finds_lifted (os : Os) (started : os.Started) (H : Type) (enc : TypeId × Value → H) :
    ReturnsInHanded {} Try.checked os 4 .any (Rows.placeFindsSpec.pre6 enc Try.prog Try.f4 Rows.placeFindsRow.domain false) (Rows.placeFindsSpec.post enc Try.prog Try.f4 false true false false) := by
  refine returnsInHanded_of_change (C := Try.checked) own started (by kernel_rfl) Try.func4
    (ChangeSpec.witness6 (enc := enc) (C := Try.checked) false ⟨#[], #[.agg #[.int .i64 0, .int .i64 0, .int .i64 0, .int .i64 0, .int .i64 0, .int .i64 0, .int .i64 0], .int .i64 0, .agg #[.int .i64 0, .int .i64 0]], []⟩ 8 (by kernel_rfl) (by kernel_rfl) (by kernel_rfl) (by kernel_rfl)) ?_
  intro W base args ds gs before hval0 hW hcnd _
  have hval : ∀ (j : Nat) t v, Try.f4.params[j]? = some t → args[j]? = some v → Value.okWide Try.prog W .any base t v := hval0
  have hW' := hW
  obtain ⟨p, q, hA0, hV, rfl, hfz, hnd⟩ := hW
  have hA : DataW.TrodAll enc Try.prog W 0 (fun _ => true) true Try.f4.params.toList args.toList ds p := hA0
  rw [Try.params4] at hA hval
  obtain ⟨v0, v1, v2, d0, d1, d2, p0, p1, p2, rfl, rfl, rfl, h0, h1, h2⟩ := trodAll_three hA
  obtain ⟨c0, c1, c2, c3, c4, c5, c6, rfl⟩ := open_cfg (hval 0 23 v0 rfl rfl) h0
  obtain ⟨g, rfl, rfl, rfl, _⟩ := open_int Try.underlying3 (hval 1 3 v1 rfl rfl) h1
  obtain ⟨a, b, rfl⟩ := open_two (hval 2 29 v2 rfl rfl) h2
  refine (finds_walk c0 c1 c2 c3 c4 c5 c6 g a b W).mono fun e W' ⟨he, hb⟩ => ?_
  subst he
  exact ⟨_, rfl, law_post laidOut hW' hb (by kernel_rfl) (by kernel_rfl) und4 rfl (by obtain ⟨rfl, rfl⟩ := trodVars_none hV; rfl)⟩

theorem placeFinds_holds : Rows.PlaceFindsSaid :=
  OpenClaim.holds_of_wide 4 Try.f4 rfl rfl rfl rfl rfl rfl rfl ⟨rfl, rfl, rfl, rfl, rfl⟩ rfl rfl rfl rfl rfl (by kernel_rfl) Try.func4 (by kernel_rfl)
    (of_decide_eq_true (by kernel_rfl)) (by unfold Func.isWrapper; first | (rw [if_pos (by decide +kernel)]; kernel_rfl) | (rw [if_neg (by decide +kernel)]; exact ⟨rfl, rfl⟩))
    (fun os started H enc _ => finds_lifted os started H enc)
#print axioms placeFinds_holds
end Go.Proofs.Ytjjfnpidgochnaa
