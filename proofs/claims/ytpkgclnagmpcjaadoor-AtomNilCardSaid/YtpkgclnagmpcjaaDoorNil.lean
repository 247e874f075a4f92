/- The law 'AtomNil' holds, with the table of instructions tied to the program's text: for all inputs the law's function returns true, and the inputs read as they did. -/
import Derived.Test.YtpkgclnagmpcjaaDoorMem
import Derived.Test.YtpkgclnagmpcjaaDoorCards
namespace Go.Proofs.YtpkgclnagmpcjaaDoor
open Go Go.Vse Go.ChangeShapes Go.WideShapes Go.ChangeAt Go.WideMaps Go.WideElems Go.RowKit
set_option maxRecDepth 100000
theorem nil_run (c n : Int) (b : Bool) : outF (runF Tryd.prog [13] 100 30 (.fn 9) [.agg [.s .i64 c, .v (.bool b)], .s .i64 n] mem0 [.call (.b true) [] [0]]) = some (.b true, [CallOK Tryd.prog 13 [] [(0, .glob 0 0 formsL)] (.b true) []]) := by kernel_rfl
theorem nil_walk (c n : Int) (b : Bool) {W : World} (h : laidMetH Tryd.prog laid1 W) : Calls Tryd.prog 9 #[.agg #[.int .i64 c, .bool b], .int .i64 n] W (TrueBelow W) := by
  have hv : VRs (fun _ => (0, 0)) [.agg [.s .i64 c, .v (.bool b)], .s .i64 n] [.agg #[.int .i64 c, .bool b], .int .i64 n] := by
    simp only [VRs, VR]
    exact ⟨_, _, rfl, ⟨_, rfl, _, _, rfl, rfl, _, _, rfl, ⟨rfl, by simp, by simp⟩, rfl⟩, _, _, rfl, rfl, rfl⟩
  have hw : wfL (al (memOf mem0)) [.agg [.s .i64 c, .v (.bool b)], .s .i64 n] := by simp [wfL, LV.wf]
  exact calls_of_out (nil_run c n b) ⟨awake_ok, trivial⟩ (sim_forms h) hv hw

theorem cells45 : flatK Tryd.prog 3 45 = some [.int .i64, .bool] := by kernel_rfl
theorem open_turn {H : Type} {enc : TypeId × Value → H} {w : World} {r : Reach} {b0 : Nat} {base : Nat} {spare : Nat → Bool} {held : Bool} {v : Value} {d : DataW H} {ps : List MemPlace} (hv : Value.okWide Tryd.prog w r b0 45 v) (h : DataW.Trod enc Tryd.prog w base spare held 45 v d ps) :
    ∃ (c : Int) (b : Bool), v = .agg #[.int .i64 c, .bool b] := by
  obtain ⟨cs, hc, he⟩ := open_flat cells45 (by kernel_rfl) hv h
  rcases he with rfl | ⟨_, ha⟩
  · simp only [FKs, FK.ok] at hc
    obtain ⟨_, _, rfl, ⟨c, rfl, _⟩, _, _, rfl, ⟨b, rfl⟩, rfl⟩ := hc
    exact ⟨c, b, rfl⟩
  · exact absurd (ha.symm.trans (show aggB Tryd.prog 45 = some true by kernel_rfl)) (by simp)

theorem nil_lifted (os : Os) (started : os.Started) (H : Type) (enc : TypeId × Value → H) :
    ReturnsInHanded {} Tryd.checked os 9 .any (fun w args => (Rows.atomNilSpec.pre enc Tryd.prog Tryd.f9 [] false w args ∧ laidMetH Tryd.prog laid1 w) ∧ sizedMet enc Tryd.prog Tryd.f9 (OpenSpec.ofChange Rows.atomNilSpec) false w args)
      (Rows.atomNilSpec.post enc Tryd.prog Tryd.f9 false true false false) := by
  refine returnsInHanded_of_change_and (C := Tryd.checked) (X := fun w _ => laidMetH Tryd.prog laid1 w) (fun _ _ _ hh h => h.of_heap hh) own started (by kernel_rfl) Tryd.func9
    (ChangeSpec.witness_shaped (enc := enc) (C := Tryd.checked) (os := os) (X := fun w _ => laidMetH Tryd.prog laid1 w) false (World.doorLaid Tryd.prog 400 os) #[.agg #[.int .i64 0, .bool false], .int .i64 0] 8 rfl (World.shaped_of_RefB (by kernel_rfl) (by kernel_rfl)) (by kernel_rfl) (by kernel_rfl) (by kernel_rfl) (door_met os _)) ?_
  intro W base args ds gs before hval0 hW _ _ hL _
  have hval : ∀ (j : Nat) t v, Tryd.f9.params[j]? = some t → args[j]? = some v → Value.okWide Tryd.prog W .any base t v := hval0
  have hW' := hW
  obtain ⟨p, q, hA0, hV, rfl, hfz, hnd⟩ := hW
  have hA : DataW.TrodAll enc Tryd.prog W 0 (fun _ => true) true Tryd.f9.params.toList args.toList ds p := hA0
  rw [Tryd.params9] at hA hval
  obtain ⟨v0, v1, d0, d1, p0, p1, rfl, rfl, rfl, h0, h1⟩ := trodAll_two hA
  obtain ⟨c, b, rfl⟩ := open_turn (hval 0 45 v0 rfl rfl) h0
  obtain ⟨n, rfl, rfl, rfl, _⟩ := open_int Tryd.underlying3 (hval 1 3 v1 rfl rfl) h1
  refine (nil_walk c n b hL).mono fun e W' ⟨he, hb⟩ => ?_
  subst he
  exact ⟨_, rfl, law_post laidOut hW' hb (by kernel_rfl) (by kernel_rfl) und4 rfl (by obtain ⟨rfl, rfl⟩ := trodVars_none hV; rfl)⟩

theorem atomNil_holds : Rows.AtomNilSaid :=
  OpenClaim.holds_of_wide 9 Tryd.f9 rfl rfl rfl rfl rfl rfl rfl ⟨rfl, rfl, rfl, rfl, rfl⟩ rfl rfl rfl rfl rfl (by kernel_rfl) Tryd.func9 (by kernel_rfl)
    (of_decide_eq_true (by kernel_rfl)) (by unfold Func.isWrapper; first | (rw [if_pos (by decide +kernel)]; kernel_rfl) | (rw [if_neg (by decide +kernel)]; exact ⟨rfl, rfl⟩))
    (fun os started H enc _ => nil_lifted os started H enc)

theorem atomNilCard_holds : Rows.AtomNilCardSaid :=
  Claim7.holds_tied_plain_at .later [] [.data] true (true, "e2c74a786eeb731cc7eb54a2a3780dccd852ff7664550601572bba80e5e1a6d4") false
    atomNil_holds (fun _ h => by cases h) (by kernel_rfl) (fun _ h => by cases h) atomNil_row_tie rfl ⟨rfl, rfl⟩ (by kernel_rfl) rfl
    (fun f fn hf hfn => by
      obtain rfl : f = 9 := Option.some.inj ((show Tryd.prog.funcNamed "donjon/donjonlaw11.AtomNil" = some 9 by kernel_rfl).symm.trans hf) |>.symm
      obtain rfl : fn = Tryd.f9 := (Option.some.inj (Tryd.func9.symm.trans hfn)).symm
      exact ⟨by kernel_rfl, fun j t ht => by
        rw [Tryd.params9] at ht
        have hm : t ∈ [45, 3] := by simpa using Array.mem_of_getElem? ht
        have hall : ([45, 3].all fun u => !Tryd.prog.wantsStandIn u) = true := by kernel_rfl
        exact (show Tryd.prog.wantsStandIn t = false by simpa using List.all_eq_true.1 hall t hm)⟩)
    (by kernel_rfl)
#print axioms atomNilCard_holds
end Go.Proofs.YtpkgclnagmpcjaaDoor
