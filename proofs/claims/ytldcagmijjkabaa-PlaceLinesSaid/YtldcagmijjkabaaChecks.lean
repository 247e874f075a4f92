/- The law 'PlaceChecks' holds: for every configuration the law's function returns true, and the configuration reads as it did. -/
import Derived.Test.YtldcagmijjkabaaJudge
namespace Go.Proofs.Ytldcagmijjkabaa
open Go Go.Vse Go.ChangeShapes Go.WideShapes Go.ChangeAt Go.RowKit
set_option maxRecDepth 100000

theorem checks_bad_run (c0 c1 c2 c3 c4 c5 c6 : Int) : outF (runF Try.prog [8, 19, 11] 100 20 (.fn 3) [cfg c0 c1 c2 c3 c4 c5 c6] [] [.call (.b false) [] [], .call (.i .i64 10) [] [], .call (.i .i64 10) [] [], .call (.i .i64 10) [] [], .call (.b true) [] []]) =
    some (.b true, [PureOK Try.prog 19 [cfg c0 c1 c2 c3 c4 c5 c6] (.b false), PureOK Try.prog 8 [cfg c0 c1 c2 c3 c4 c5 c6] (.i .i64 10), PureOK Try.prog 8 [cfg c0 c1 c2 c3 c4 c5 c6] (.i .i64 10), PureOK Try.prog 8 [cfg c0 c1 c2 c3 c4 c5 c6] (.i .i64 10), PureOK Try.prog 11 [] (.b true)]) := by kernel_rfl
theorem checks_good_run (c0 c1 c2 c3 c4 c5 c6 : Int) : outF (runF Try.prog [8, 19, 11] 100 20 (.fn 3) [cfg c0 c1 c2 c3 c4 c5 c6] [] [.call (.b true) [] [], .call (.i .i64 0) [] [], .call (.i .i64 0) [] [], .nw, .nw, .nw, .cmp true, .call (.i .i64 0) [] [], .nw, .nw, .cmp true, .call (.b true) [] []]) =
    some (.b true, [PureOK Try.prog 19 [cfg c0 c1 c2 c3 c4 c5 c6] (.b true), PureOK Try.prog 8 [cfg c0 c1 c2 c3 c4 c5 c6] (.i .i64 0), PureOK Try.prog 8 [cfg c0 c1 c2 c3 c4 c5 c6] (.i .i64 0), IntKind.i64.wrap (c1 * 2) = c1 * 2, IntKind.i64.wrap (c1 * 2 * 2) = c1 * 2 * 2, IntKind.i64.wrap (4 * c1) = 4 * c1, obB true (c1 * 2 * 2 = 4 * c1),
      PureOK Try.prog 8 [cfg c0 c1 c2 c3 c4 c5 c6] (.i .i64 0), IntKind.i64.wrap (c1 * 2) = c1 * 2, IntKind.i64.wrap (2 * c1) = 2 * c1, obB true (c1 * 2 = 2 * c1), PureOK Try.prog 11 [] (.b true)]) := by kernel_rfl

theorem checks_walk (c0 c1 c2 c3 c4 c5 c6 : Int) (W : World) : Calls Try.prog 3 #[.agg #[.int .i64 c0, .int .i64 c1, .int .i64 c2, .int .i64 c3, .int .i64 c4, .int .i64 c5, .int .i64 c6]] W (TrueBelow W) := by
  have hv : VRs (fun _ => (0, 0)) [cfg c0 c1 c2 c3 c4 c5 c6] [.agg #[.int .i64 c0, .int .i64 c1, .int .i64 c2, .int .i64 c3, .int .i64 c4, .int .i64 c5, .int .i64 c6]] := by
    simp only [VRs, VR]
    exact ⟨_, _, rfl, ⟨_, rfl, _, _, rfl, rfl, _, _, rfl, rfl, _, _, rfl, rfl, _, _, rfl, rfl, _, _, rfl, rfl, _, _, rfl, rfl, _, _, rfl, rfl, rfl⟩, rfl⟩
  have hw : ∀ A : Nat → Prop, wfL A [cfg c0 c1 c2 c3 c4 c5 c6] := fun A => by simp [wfL, LV.wf]
  by_cases h : may c0 c1 c2 c3 c4 c5 c6
  · refine calls_of_out (checks_good_run c0 c1 c2 c3 c4 c5 c6) ?_ sim_none hv (hw _)
    have h1 := may_good _ _ _ _ _ _ _ h
    have h2 := check_good _ _ _ _ _ _ _ h
    simp only [may] at h
    refine ⟨h1, h2, h2, wrap_i64 (by omega), wrap_i64 (by omega), wrap_i64 (by omega), by simp only [obB]; omega, h2, wrap_i64 (by omega), wrap_i64 (by omega), by simp only [obB]; omega, awake_ok, trivial⟩
  · refine calls_of_out (checks_bad_run c0 c1 c2 c3 c4 c5 c6) ?_ sim_none hv (hw _)
    have h1 := may_bad _ _ _ _ _ _ _ h
    have h2 := check_bad _ _ _ _ _ _ _ h
    exact ⟨h1, h2, h2, h2, awake_ok, trivial⟩

theorem own : ownKnob Try.prog.godebug = none := by kernel_rfl
theorem laidOut : laidOutB Try.prog = true := by kernel_rfl
theorem cells23 : flatK Try.prog 3 23 = some [.int .i64, .int .i64, .int .i64, .int .i64, .int .i64, .int .i64, .int .i64] := by kernel_rfl
theorem und4 : Try.prog.underlying 4 = some .bool := by kernel_rfl

theorem open_cfg {H : Type} {enc : TypeId × Value → H} {w : World} {r : Reach} {b0 : Nat} {base : Nat} {spare : Nat → Bool} {held : Bool} {v : Value} {d : DataW H} {ps : List MemPlace} (hv : Value.okWide Try.prog w r b0 23 v) (h : DataW.Trod enc Try.prog w base spare held 23 v d ps) :
    ∃ c0 c1 c2 c3 c4 c5 c6 : Int, v = .agg #[.int .i64 c0, .int .i64 c1, .int .i64 c2, .int .i64 c3, .int .i64 c4, .int .i64 c5, .int .i64 c6] := by
  obtain ⟨cs, hc, he⟩ := open_flat cells23 (by kernel_rfl) hv h
  rcases he with rfl | ⟨_, ha⟩
  · simp only [FKs, FK.ok] at hc
    obtain ⟨_, _, rfl, ⟨c0, rfl, _⟩, _, _, rfl, ⟨c1, rfl, _⟩, _, _, rfl, ⟨c2, rfl, _⟩, _, _, rfl, ⟨c3, rfl, _⟩, _, _, rfl, ⟨c4, rfl, _⟩, _, _, rfl, ⟨c5, rfl, _⟩, _, _, rfl, ⟨c6, rfl, _⟩, rfl⟩ := hc
    exact ⟨c0, c1, c2, c3, c4, c5, c6, rfl⟩
  · exact absurd (ha.symm.trans (show aggB Try.prog 23 = some true by kernel_rfl)) (by simp)

theorem checks_lifted (os : Os) (started : os.Started) (H : Type) (enc : TypeId × Value → H) :
    ReturnsInHanded {} Try.checked os 3 .any (Rows.placeChecksSpec.pre6 enc Try.prog Try.f3 Rows.placeChecksRow.domain false) (Rows.placeChecksSpec.post enc Try.prog Try.f3 false true false false) := by
  refine returnsInHanded_of_change (C := Try.checked) own started (by kernel_rfl) Try.func3
    (ChangeSpec.witness6 (enc := enc) (C := Try.checked) false ⟨#[], #[.agg #[.int .i64 0, .int .i64 0, .int .i64 0, .int .i64 0, .int .i64 0, .int .i64 0, .int .i64 0]], []⟩ 8 (by kernel_rfl) (by kernel_rfl) (by kernel_rfl) (by kernel_rfl)) ?_
  intro W base args ds gs before hval0 hW hcnd _
  have hval : ∀ (j : Nat) t v, Try.f3.params[j]? = some t → args[j]? = some v → Value.okWide Try.prog W .any base t v := hval0
  have hW' := hW
  obtain ⟨p, q, hA0, hV, rfl, hfz, hnd⟩ := hW
  have hA : DataW.TrodAll enc Try.prog W 0 (fun _ => true) true Try.f3.params.toList args.toList ds p := hA0
  rw [Try.params3] at hA hval
  obtain ⟨v0, d0, rfl, rfl, h0⟩ := trodAll_one hA
  obtain ⟨c0, c1, c2, c3, c4, c5, c6, rfl⟩ := open_cfg (hval 0 23 v0 rfl rfl) h0
  refine (checks_walk c0 c1 c2 c3 c4 c5 c6 W).mono fun e W' ⟨he, hb⟩ => ?_
  subst he
  exact ⟨_, rfl, law_post laidOut hW' hb (by kernel_rfl) (by kernel_rfl) und4 rfl (by obtain ⟨rfl, rfl⟩ := trodVars_none hV; rfl)⟩

theorem placeChecks_holds : Rows.PlaceChecksSaid :=
  OpenClaim.holds_of_wide 3 Try.f3 rfl rfl rfl rfl rfl rfl rfl ⟨rfl, rfl, rfl, rfl, rfl⟩ rfl rfl rfl rfl rfl (by kernel_rfl) Try.func3 (by kernel_rfl)
    (of_decide_eq_true (by kernel_rfl)) (by unfold Func.isWrapper; first | (rw [if_pos (by decide +kernel)]; kernel_rfl) | (rw [if_neg (by decide +kernel)]; exact ⟨rfl, rfl⟩))
    (fun os started H enc _ => checks_lifted os started H enc)
#print axioms placeChecks_holds
end Go.Proofs.Ytldcagmijjkabaa
