/- The law 'AtomJudges' holds, with the table of instructions tied to the program's text: for all inputs the law's function returns true, and the inputs read as they did. -/
import Derived.Test.YtpkgclnagmpcjaaDoorJudge
import Derived.Test.YtpkgclnagmpcjaaDoorMem
import Derived.Test.YtpkgclnagmpcjaaDoorCards
namespace Go.Proofs.YtpkgclnagmpcjaaDoor
open Go Go.Vse Go.ChangeShapes Go.WideShapes Go.ChangeAt Go.WideMaps Go.WideElems Go.RowKit
set_option maxRecDepth 100000
theorem law_run (c w o t : Int) : outF (runF P ctJ 100 30 (.fn 3) [.agg [.s .i64 c, .s .i64 w], .s .i64 o, .s .i64 t] mem0 [.call (.b true) [] [0]]) =
    some (LV.b true, [obB true ((judgeM c w o t).fst = (judgeM c w o t).fst), obB true ((judgeM c w o t).snd.fst = (judgeM c w o t).snd.fst), obB true ((judgeM c w o t).snd.snd = (judgeM c w o t).snd.snd), CallOK P 13 [] [(0, .glob 0 0 formsL)] (LV.b true) []]) := by kernel_rfl
theorem law_walk (c w o t : Int) {W : World} (h : laidMetH Tryd.prog laid1 W) : Calls Tryd.prog 3 #[.agg #[.int .i64 c, .int .i64 w], .int .i64 o, .int .i64 t] W (TrueBelow W) := by
  have hv : VRs (fun _ => (0, 0)) [.agg [.s .i64 c, .s .i64 w], .s .i64 o, .s .i64 t] [.agg #[.int .i64 c, .int .i64 w], .int .i64 o, .int .i64 t] := by
    simp only [VRs, VR]
    exact ⟨_, _, rfl, ⟨_, rfl, _, _, rfl, rfl, _, _, rfl, rfl, rfl⟩, _, _, rfl, rfl, _, _, rfl, rfl, rfl⟩
  have hw : wfL (al (memOf mem0)) [.agg [.s .i64 c, .s .i64 w], .s .i64 o, .s .i64 t] := by simp [wfL, LV.wf]
  exact calls_of_out ctJ_ok (law_run c w o t) (by (repeat' first | exact trivial | refine And.intro ?_ ?_) <;> first | exact awake_ok | rfl) (sim_forms h) hv hw
theorem cells22 : flatK Tryd.prog 3 22 = some [.int .i64, .int .i64] := by kernel_rfl
theorem open_two {H : Type} {enc : TypeId × Value → H} {w : World} {r : Reach} {b0 : Nat} {base : Nat} {spare : Nat → Bool} {held : Bool} {v : Value} {d : DataW H} {ps : List MemPlace} (hv : Value.okWide Tryd.prog w r b0 22 v) (h : DataW.Trod enc Tryd.prog w base spare held 22 v d ps) :
    ∃ a b : Int, v = .agg #[.int .i64 a, .int .i64 b] := by
  obtain ⟨cs, hc, he⟩ := open_flat cells22 (by kernel_rfl) hv h
  rcases he with rfl | ⟨_, ha⟩
  · simp only [FKs, FK.ok] at hc
    obtain ⟨_, _, rfl, ⟨a, rfl, _⟩, _, _, rfl, ⟨b, rfl, _⟩, rfl⟩ := hc
    exact ⟨a, b, rfl⟩
  · exact absurd (ha.symm.trans (show aggB Tryd.prog 22 = some true by kernel_rfl)) (by simp)

theorem law_lifted (os : Os) (started : os.Started) (H : Type) (enc : TypeId × Value → H) :
    ReturnsInHanded {} Tryd.checked os 3 .any (fun w args => (Rows.atomJudgesSpec.pre enc Tryd.prog Tryd.f3 [] false w args ∧ laidMetH Tryd.prog laid1 w) ∧ sizedMet enc Tryd.prog Tryd.f3 (OpenSpec.ofChange Rows.atomJudgesSpec) false w args)
      (Rows.atomJudgesSpec.post enc Tryd.prog Tryd.f3 false true false false) := by
  refine returnsInHanded_of_change_and (C := Tryd.checked) (X := fun w _ => laidMetH Tryd.prog laid1 w) (fun _ _ _ hh h => h.of_heap hh) own started (by kernel_rfl) Tryd.func3
    (ChangeSpec.witness_shaped (enc := enc) (C := Tryd.checked) (os := os) (X := fun w _ => laidMetH Tryd.prog laid1 w) false (World.doorLaid Tryd.prog 400 os) #[.agg #[.int .i64 0, .int .i64 0], .int .i64 0, .int .i64 0] 8 rfl (World.shaped_of_RefB (by kernel_rfl) (by kernel_rfl)) (by kernel_rfl) (by kernel_rfl) (by kernel_rfl) (door_met os _)) ?_
  intro W base args ds gs before hval0 hW _ _ hL _
  have hval : ∀ (j : Nat) t v, Tryd.f3.params[j]? = some t → args[j]? = some v → Value.okWide Tryd.prog W .any base t v := hval0
  have hW' := hW
  obtain ⟨p, q, hA0, hV, rfl, hfz, hnd⟩ := hW
  have hA : DataW.TrodAll enc Tryd.prog W 0 (fun _ => true) true Tryd.f3.params.toList args.toList ds p := hA0
  rw [Tryd.params3] at hA hval
  obtain ⟨v0, v1, v2, d0, d1, d2, p0, p1, p2, rfl, rfl, rfl, h0, h1, h2⟩ := trodAll_three hA
  obtain ⟨c, w, rfl⟩ := open_two (hval 0 22 v0 rfl rfl) h0
  obtain ⟨o, rfl, rfl, rfl, _⟩ := open_int Tryd.underlying3 (hval 1 3 v1 rfl rfl) h1
  obtain ⟨t, rfl, rfl, rfl, _⟩ := open_int Tryd.underlying3 (hval 2 3 v2 rfl rfl) h2
  refine (law_walk c w o t hL).mono fun e W' ⟨he, hb⟩ => ?_
  subst he
  exact ⟨_, rfl, law_post laidOut hW' hb (by kernel_rfl) (by kernel_rfl) und4 rfl (by obtain ⟨rfl, rfl⟩ := trodVars_none hV; rfl)⟩

theorem atomJudges_holds : Rows.AtomJudgesSaid :=
  OpenClaim.holds_of_wide 3 Tryd.f3 rfl rfl rfl rfl rfl rfl rfl ⟨rfl, rfl, rfl, rfl, rfl⟩ rfl rfl rfl rfl rfl (by kernel_rfl) Tryd.func3 (by kernel_rfl)
    (of_decide_eq_true (by kernel_rfl)) (by unfold Func.isWrapper; first | (rw [if_pos (by decide +kernel)]; kernel_rfl) | (rw [if_neg (by decide +kernel)]; exact ⟨rfl, rfl⟩))
    (fun os started H enc _ => law_lifted os started H enc)

theorem atomJudgesCard_holds : Rows.AtomJudgesCardSaid :=
  Claim7.holds_tied_plain_at .later [] [.data] true (true, "e2c74a786eeb731cc7eb54a2a3780dccd852ff7664550601572bba80e5e1a6d4") false
    atomJudges_holds (fun _ h => by cases h) (by kernel_rfl) (fun _ h => by cases h) atomJudges_row_tie rfl ⟨rfl, rfl⟩ (by kernel_rfl) rfl
    (fun f fn hf hfn => by
      obtain rfl : f = 3 := Option.some.inj ((show Tryd.prog.funcNamed "donjon/donjonlaw11.AtomJudges" = some 3 by kernel_rfl).symm.trans hf) |>.symm
      obtain rfl : fn = Tryd.f3 := (Option.some.inj (Tryd.func3.symm.trans hfn)).symm
      exact ⟨by kernel_rfl, fun j t ht => by
        rw [Tryd.params3] at ht
        have hm : t ∈ [22, 3, 3] := by simpa using Array.mem_of_getElem? ht
        have hall : ([22, 3, 3].all fun u => !Tryd.prog.wantsStandIn u) = true := by kernel_rfl
        exact (show Tryd.prog.wantsStandIn t = false by simpa using List.all_eq_true.1 hall t hm)⟩)
    (by kernel_rfl)
#print axioms atomJudgesCard_holds
end Go.Proofs.YtpkgclnagmpcjaaDoor
