/- The law 'CoreNil' holds, with the table of instructions tied to the program's text: for all inputs the law's function returns true, and the inputs read as they did. -/
import Derived.Test.YtbipomifjblhpaaDoorMem
import Derived.Test.YtbipomifjblhpaaDoorCards
namespace Go.Proofs.YtbipomifjblhpaaDoor
open Go Go.Vse Go.ChangeShapes Go.WideShapes Go.ChangeAt Go.WideMaps Go.WideElems Go.RowKit
set_option maxRecDepth 100000
theorem nil_run1 (v c n : Int) : outF (runF Tryd.prog [7] 100 30 (.fn 5) [.s .i64 v, .s .i64 c, .s .i64 n] mem0 [.cmp true, .call (.b true) [] [0]]) = some (.b true, [obB true (0 < n), CallOK Tryd.prog 7 [] [(0, .glob 0 0 formsL)] (.b true) []]) := by kernel_rfl
theorem nil_run0 (v c n : Int) : outF (runF Tryd.prog [7] 100 30 (.fn 5) [.s .i64 v, .s .i64 c, .s .i64 n] mem0 [.cmp false, .call (.b true) [] [0]]) = some (.b true, [obB false (0 < n), CallOK Tryd.prog 7 [] [(0, .glob 0 0 formsL)] (.b true) []]) := by kernel_rfl
theorem nil_walk (v c n : Int) {W : World} (h : laidMetH Tryd.prog laid1 W) : Calls Tryd.prog 5 #[.int .i64 v, .int .i64 c, .int .i64 n] W (TrueBelow W) := by
  have hv : VRs (fun _ => (0, 0)) [.s .i64 v, .s .i64 c, .s .i64 n] [.int .i64 v, .int .i64 c, .int .i64 n] := by
    simp only [VRs, VR]
    exact ⟨_, _, rfl, rfl, _, _, rfl, rfl, _, _, rfl, rfl, rfl⟩
  have hw : wfL (al (memOf mem0)) [.s .i64 v, .s .i64 c, .s .i64 n] := by simp [wfL, LV.wf]
  by_cases hn : 0 < n
  · exact calls_of_out (nil_run1 v c n) ⟨hn, awake_ok, trivial⟩ (sim_forms h) hv hw
  · exact calls_of_out (nil_run0 v c n) ⟨hn, awake_ok, trivial⟩ (sim_forms h) hv hw

theorem nil_lifted (os : Os) (started : os.Started) (H : Type) (enc : TypeId × Value → H) :
    ReturnsInHanded {} Tryd.checked os 5 .any (fun w args => (Rows.coreNilSpec.pre enc Tryd.prog Tryd.f5 [] false w args ∧ laidMetH Tryd.prog laid1 w) ∧ sizedMet enc Tryd.prog Tryd.f5 (OpenSpec.ofChange Rows.coreNilSpec) false w args)
      (Rows.coreNilSpec.post enc Tryd.prog Tryd.f5 false true false false) := by
  refine returnsInHanded_of_change_and (C := Tryd.checked) (X := fun w _ => laidMetH Tryd.prog laid1 w) (fun _ _ _ hh h => h.of_heap hh) own started (by kernel_rfl) Tryd.func5
    (ChangeSpec.witness_shaped (enc := enc) (C := Tryd.checked) (os := os) (X := fun w _ => laidMetH Tryd.prog laid1 w) false (World.doorLaid Tryd.prog 400 os) #[.int .i64 0, .int .i64 0, .int .i64 0] 8 rfl (World.shaped_of_RefB (by kernel_rfl) (by kernel_rfl)) (by kernel_rfl) (by kernel_rfl) (by kernel_rfl) (door_met os _)) ?_
  intro W base args ds gs before hval0 hW _ _ hL _
  have hval : ∀ (j : Nat) t v, Tryd.f5.params[j]? = some t → args[j]? = some v → Value.okWide Tryd.prog W .any base t v := hval0
  have hW' := hW
  obtain ⟨p, q, hA0, hV, rfl, hfz, hnd⟩ := hW
  have hA : DataW.TrodAll enc Tryd.prog W 0 (fun _ => true) true Tryd.f5.params.toList args.toList ds p := hA0
  rw [Tryd.params5] at hA hval
  obtain ⟨v0, v1, v2, d0, d1, d2, p0, p1, p2, rfl, rfl, rfl, h0, h1, h2⟩ := trodAll_three hA
  obtain ⟨a, rfl, rfl, rfl, _⟩ := open_int Tryd.underlying3 (hval 0 3 v0 rfl rfl) h0
  obtain ⟨b, rfl, rfl, rfl, _⟩ := open_int Tryd.underlying3 (hval 1 3 v1 rfl rfl) h1
  obtain ⟨c, rfl, rfl, rfl, _⟩ := open_int Tryd.underlying3 (hval 2 3 v2 rfl rfl) h2
  refine (nil_walk a b c hL).mono fun e W' ⟨he, hb⟩ => ?_
  subst he
  exact ⟨_, rfl, law_post laidOut hW' hb (by kernel_rfl) (by kernel_rfl) und4 rfl (by obtain ⟨rfl, rfl⟩ := trodVars_none hV; rfl)⟩

theorem coreNil_holds : Rows.CoreNilSaid :=
  OpenClaim.holds_of_wide 5 Tryd.f5 rfl rfl rfl rfl rfl rfl rfl ⟨rfl, rfl, rfl, rfl, rfl⟩ rfl rfl rfl rfl rfl (by kernel_rfl) Tryd.func5 (by kernel_rfl)
    (of_decide_eq_true (by kernel_rfl)) (by unfold Func.isWrapper; first | (rw [if_pos (by decide +kernel)]; kernel_rfl) | (rw [if_neg (by decide +kernel)]; exact ⟨rfl, rfl⟩))
    (fun os started H enc _ => nil_lifted os started H enc)

theorem coreNilCard_holds : Rows.CoreNilCardSaid :=
  Claim7.holds_tied_plain_at .later [] [.data] true (true, "96075cebb3ee1fa3c1f76df54df19b3c44f9723fdf74a5a8101d6ab1f0c04086") false
    coreNil_holds (fun _ h => by cases h) (by kernel_rfl) (fun _ h => by cases h) coreNil_row_tie rfl ⟨rfl, rfl⟩ (by kernel_rfl) rfl
    (fun f fn hf hfn => by
      obtain rfl : f = 5 := Option.some.inj ((show Tryd.prog.funcNamed "donjon/donjonlaw15.CoreNil" = some 5 by kernel_rfl).symm.trans hf) |>.symm
      obtain rfl : fn = Tryd.f5 := (Option.some.inj (Tryd.func5.symm.trans hfn)).symm
      exact ⟨by kernel_rfl, fun j t ht => by
        rw [Tryd.params5] at ht
        have hm : t ∈ [3, 3, 3] := by simpa using Array.mem_of_getElem? ht
        have hall : ([3, 3, 3].all fun u => !Tryd.prog.wantsStandIn u) = true := by kernel_rfl
        exact (show Tryd.prog.wantsStandIn t = false by simpa using List.all_eq_true.1 hall t hm)⟩)
    (by kernel_rfl)
#print axioms coreNilCard_holds
end Go.Proofs.YtbipomifjblhpaaDoor
