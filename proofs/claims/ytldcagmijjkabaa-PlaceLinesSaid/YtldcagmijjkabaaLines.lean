/- The law 'PlaceLines' holds: for every configuration and every granule the law's function returns true, and both read as they did. -/
import Derived.Test.YtldcagmijjkabaaChecks
namespace Go.Proofs.Ytldcagmijjkabaa
open Go Go.Vse Go.ChangeShapes Go.WideShapes Go.ChangeAt Go.RowKit
set_option maxRecDepth 100000
theorem lines_low_bad_run (c0 c1 c2 c3 c4 c5 c6 g : Int) : outF (runF Try.prog [8, 19, 11] 100 20 (.fn 5) [cfg c0 c1 c2 c3 c4 c5 c6, .s .i64 g] [] [.cmp true, .call (.b false) [] [], .call (.b true) [] []]) =
    some (LV.b true, [obB true (g < 0), PureOK Try.prog 19 [cfg c0 c1 c2 c3 c4 c5 c6] (LV.b false), PureOK Try.prog 11 [] (LV.b true)]) := by kernel_rfl
theorem lines_high_bad_run (c0 c1 c2 c3 c4 c5 c6 g : Int) : outF (runF Try.prog [8, 19, 11] 100 20 (.fn 5) [cfg c0 c1 c2 c3 c4 c5 c6, .s .i64 g] [] [.cmp false, .call (.i .i64 10) [] [], .cmp true, .call (.b false) [] [], .call (.b true) [] []]) =
    some (LV.b true, [obB false (g < 0), PureOK Try.prog 8 [cfg c0 c1 c2 c3 c4 c5 c6] (LV.i IntKind.i64 10), obB true (fwrap IntKind.i64 (Int.tdiv 0 2) ≤ g), PureOK Try.prog 19 [cfg c0 c1 c2 c3 c4 c5 c6] (LV.b false), PureOK Try.prog 11 [] (LV.b true)]) := by kernel_rfl
theorem lines_low_run (c0 c1 c2 c3 c4 c5 c6 g : Int) : outF (runF Try.prog [8, 19, 11] 100 20 (.fn 5) [cfg c0 c1 c2 c3 c4 c5 c6, .s .i64 g] [] [.cmp true, .call (.b true) [] [], .cmp false, .call (.b true) [] []]) =
    some (LV.b true, [obB true (g < 0), PureOK Try.prog 19 [cfg c0 c1 c2 c3 c4 c5 c6] (LV.b true), obB false (0 ≤ g), PureOK Try.prog 11 [] (LV.b true)]) := by kernel_rfl
theorem lines_high_run (c0 c1 c2 c3 c4 c5 c6 g : Int) : outF (runF Try.prog [8, 19, 11] 100 20 (.fn 5) [cfg c0 c1 c2 c3 c4 c5 c6, .s .i64 g] [] [.cmp false, .call (.i .i64 0) [] [], .nw, .nw, .cmp true, .call (.b true) [] [], .cmp true, .cmp false, .call (.b true) [] []]) =
    some (LV.b true, [obB false (g < 0), PureOK Try.prog 8 [cfg c0 c1 c2 c3 c4 c5 c6] (LV.i IntKind.i64 0), ((IntKind.i64.wrap (c1 * 2))) = c1 * 2, ((2 : Int) ≠ 0), IntKind.i64.wrap ((c1 * 2).tdiv 2) = (c1 * 2).tdiv 2, obB true ((c1 * 2).tdiv 2 ≤ g), PureOK Try.prog 19 [cfg c0 c1 c2 c3 c4 c5 c6] (LV.b true), obB true (0 ≤ g), obB false (g < c1), PureOK Try.prog 11 [] (LV.b true)]) := by kernel_rfl
theorem lines_in_run (c0 c1 c2 c3 c4 c5 c6 g : Int) : outF (runF Try.prog [8, 19, 11] 100 20 (.fn 5) [cfg c0 c1 c2 c3 c4 c5 c6, .s .i64 g] [] [.cmp false, .call (.i .i64 0) [] [], .nw, .nw, .cmp false, .nw, .nw, .cmp true, .call (.i .i64 0) [] [], .nw, .cmp true, .nw, .cmp false, .nw, .nw, .cmp false, .nw, .nw, .cmp true, .call (.i .i64 0) [] [], .nw, .cmp true, .nw, .cmp false, .nw, .nw, .cmp false, .call (.b true) [] [], .cmp true, .cmp true, .call (.b true) [] []]) =
    some (LV.b true, [obB false (g < 0), PureOK Try.prog 8 [cfg c0 c1 c2 c3 c4 c5 c6] (LV.i IntKind.i64 0), ((IntKind.i64.wrap (c1 * 2))) = c1 * 2, ((2 : Int) ≠ 0), IntKind.i64.wrap ((c1 * 2).tdiv 2) = (c1 * 2).tdiv 2, obB false ((c1 * 2).tdiv 2 ≤ g), ((IntKind.i64.wrap (g * 2))) = g * 2, ((IntKind.i64.wrap (g * 2 + 0))) = g * 2 + 0, obB true (0 ≤ g * 2 + 0), PureOK Try.prog 8 [cfg c0 c1 c2 c3 c4 c5 c6] (LV.i IntKind.i64 0), ((IntKind.i64.wrap (c1 * 2))) = c1 * 2, obB true (g * 2 + 0 < c1 * 2), ((2 : Int) ≠ 0), IntKind.i64.wrap ((g * 2 + 0).tdiv 2) = (g * 2 + 0).tdiv 2, obB false ((g * 2 + 0).tdiv 2 ≠ g), ((IntKind.i64.wrap (2 * g))) = 2 * g, ((IntKind.i64.wrap (2 * g + 0))) = 2 * g + 0, obB false (g * 2 + 0 ≠ 2 * g + 0), ((IntKind.i64.wrap (g * 2))) = g * 2, ((IntKind.i64.wrap (g * 2 + 1))) = g * 2 + 1, obB true (0 ≤ g * 2 + 1), PureOK Try.prog 8 [cfg c0 c1 c2 c3 c4 c5 c6] (LV.i IntKind.i64 0), ((IntKind.i64.wrap (c1 * 2))) = c1 * 2, obB true ((g * 2 + 1) < c1 * 2), ((2 : Int) ≠ 0), IntKind.i64.wrap ((g * 2 + 1).tdiv 2) = (g * 2 + 1).tdiv 2, obB false ((g * 2 + 1).tdiv 2 ≠ g), ((IntKind.i64.wrap (2 * g))) = 2 * g, ((IntKind.i64.wrap (2 * g + 1))) = 2 * g + 1, obB false ((g * 2 + 1) ≠ 2 * g + 1), PureOK Try.prog 19 [cfg c0 c1 c2 c3 c4 c5 c6] (LV.b true), obB true (0 ≤ g), obB true (g < c1), PureOK Try.prog 11 [] (LV.b true)]) := by kernel_rfl

theorem lines_walk (c0 c1 c2 c3 c4 c5 c6 g : Int) (W : World) : Calls Try.prog 5 #[.agg #[.int .i64 c0, .int .i64 c1, .int .i64 c2, .int .i64 c3, .int .i64 c4, .int .i64 c5, .int .i64 c6], .int .i64 g] W (TrueBelow W) := by
  have hv : VRs (fun _ => (0, 0)) [cfg c0 c1 c2 c3 c4 c5 c6, .s .i64 g] [.agg #[.int .i64 c0, .int .i64 c1, .int .i64 c2, .int .i64 c3, .int .i64 c4, .int .i64 c5, .int .i64 c6], .int .i64 g] := by
    simp only [VRs, VR]
    exact ⟨_, _, rfl, ⟨_, rfl, _, _, rfl, rfl, _, _, rfl, rfl, _, _, rfl, rfl, _, _, rfl, rfl, _, _, rfl, rfl, _, _, rfl, rfl, _, _, rfl, rfl, rfl⟩, _, _, rfl, rfl, rfl⟩
  have hw : ∀ A : Nat → Prop, wfL A [cfg c0 c1 c2 c3 c4 c5 c6, .s .i64 g] := fun A => by simp [wfL, LV.wf]
  by_cases h : may c0 c1 c2 c3 c4 c5 c6
  · have h1 := may_good _ _ _ _ _ _ _ h
    have h2 := check_good _ _ _ _ _ _ _ h
    simp only [may] at h
    have e1 : (c1 * 2).tdiv 2 = c1 := by rw [Int.tdiv_eq_ediv_of_nonneg (by omega)]; omega
    by_cases hl : g < 0
    · refine calls_of_out (lines_low_run c0 c1 c2 c3 c4 c5 c6 g) ?_ sim_none hv (hw _)
      simp only [AllP, obB, and_true]
      exact ⟨hl, h1, by omega, awake_ok⟩
    · by_cases hh : c1 ≤ g
      · refine calls_of_out (lines_high_run c0 c1 c2 c3 c4 c5 c6 g) ?_ sim_none hv (hw _)
        simp only [AllP, obB, and_true, e1]
        exact ⟨hl, h2, wrap_i64 (by omega), by decide, wrap_i64 (by omega), hh, h1, by omega, by omega, awake_ok⟩
      · have e2 : (g * 2 + 0).tdiv 2 = g := by rw [Int.tdiv_eq_ediv_of_nonneg (by omega)]; omega
        have e3 : (g * 2 + 1).tdiv 2 = g := by rw [Int.tdiv_eq_ediv_of_nonneg (by omega)]; omega
        refine calls_of_out (lines_in_run c0 c1 c2 c3 c4 c5 c6 g) ?_ sim_none hv (hw _)
        simp only [AllP, obB, and_true, e1, e2, e3]
        refine ⟨hl, h2, wrap_i64 (by omega), by decide, wrap_i64 (by omega), hh, ?_⟩
        refine ⟨wrap_i64 (by omega), wrap_i64 (by omega), by omega, h2, wrap_i64 (by omega), by omega, by decide, wrap_i64 (by omega), by omega, wrap_i64 (by omega), wrap_i64 (by omega), by omega, ?_⟩
        exact ⟨wrap_i64 (by omega), wrap_i64 (by omega), by omega, h2, wrap_i64 (by omega), by omega, by decide, wrap_i64 (by omega), by omega, wrap_i64 (by omega), wrap_i64 (by omega), by omega, h1, by omega, by omega, awake_ok⟩
  · have h1 := may_bad _ _ _ _ _ _ _ h
    have h2 := check_bad _ _ _ _ _ _ _ h
    by_cases hl : g < 0
    · refine calls_of_out (lines_low_bad_run c0 c1 c2 c3 c4 c5 c6 g) ?_ sim_none hv (hw _)
      exact ⟨hl, h1, awake_ok, trivial⟩
    · refine calls_of_out (lines_high_bad_run c0 c1 c2 c3 c4 c5 c6 g) ?_ sim_none hv (hw _)
      exact ⟨hl, h2, show (0 : Int) ≤ g by omega, h1, awake_ok, trivial⟩

theorem lines_lifted (os : Os) (started : os.Started) (H : Type) (enc : TypeId × Value → H) :
    ReturnsInHanded {} Try.checked os 5 .any (Rows.placeLinesSpec.pre6 enc Try.prog Try.f5 Rows.placeLinesRow.domain false) (Rows.placeLinesSpec.post enc Try.prog Try.f5 false true false false) := by
  refine returnsInHanded_of_change (C := Try.checked) own started (by kernel_rfl) Try.func5
    (ChangeSpec.witness6 (enc := enc) (C := Try.checked) false ⟨#[], #[.agg #[.int .i64 0, .int .i64 0, .int .i64 0, .int .i64 0, .int .i64 0, .int .i64 0, .int .i64 0], .int .i64 0], []⟩ 8 (by kernel_rfl) (by kernel_rfl) (by kernel_rfl) (by kernel_rfl)) ?_
  intro W base args ds gs before hval0 hW hcnd _
  have hval : ∀ (j : Nat) t v, Try.f5.params[j]? = some t → args[j]? = some v → Value.okWide Try.prog W .any base t v := hval0
  have hW' := hW
  obtain ⟨p, q, hA0, hV, rfl, hfz, hnd⟩ := hW
  have hA : DataW.TrodAll enc Try.prog W 0 (fun _ => true) true Try.f5.params.toList args.toList ds p := hA0
  rw [Try.params5] at hA hval
  obtain ⟨v0, v1, d0, d1, p0, p1, rfl, rfl, rfl, h0, h1⟩ := trodAll_two hA
  obtain ⟨c0, c1, c2, c3, c4, c5, c6, rfl⟩ := open_cfg (hval 0 23 v0 rfl rfl) h0
  obtain ⟨g, rfl, rfl, rfl, _⟩ := open_int Try.underlying3 (hval 1 3 v1 rfl rfl) h1
  refine (lines_walk c0 c1 c2 c3 c4 c5 c6 g W).mono fun e W' ⟨he, hb⟩ => ?_
  subst he
  exact ⟨_, rfl, law_post laidOut hW' hb (by kernel_rfl) (by kernel_rfl) und4 rfl (by obtain ⟨rfl, rfl⟩ := trodVars_none hV; rfl)⟩

theorem placeLines_holds : Rows.PlaceLinesSaid :=
  OpenClaim.holds_of_wide 5 Try.f5 rfl rfl rfl rfl rfl rfl rfl ⟨rfl, rfl, rfl, rfl, rfl⟩ rfl rfl rfl rfl rfl (by kernel_rfl) Try.func5 (by kernel_rfl)
    (of_decide_eq_true (by kernel_rfl)) (by unfold Func.isWrapper; first | (rw [if_pos (by decide +kernel)]; kernel_rfl) | (rw [if_neg (by decide +kernel)]; exact ⟨rfl, rfl⟩))
    (fun os started H enc _ => lines_lifted os started H enc)
#print axioms placeLines_holds
end Go.Proofs.Ytldcagmijjkabaa
