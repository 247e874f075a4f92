/- The law 'PlaceBack': which configurations may be; what is owed at each call. -/
import Derived.Test.YtinblcmgnjcnlaaAb
namespace Go.Proofs.Ytinblcmgnjcnlaa
open Go Go.Vse
set_option maxRecDepth 100000
set_option maxHeartbeats 4000000
theorem may_run0 (c0 c1 c2 c3 c4 c5 c6 : Int) : callR P noCt 100 30 4 [.agg [.s .i64 c0, .s .i64 c1, .s .i64 c2, .s .i64 c3, .s .i64 c4, .s .i64 c5, .s .i64 c6]] [] [.cmp true] [] (.b false) [] [] =
    some [obB true (c0 < (1 : Int)), false = false] := by kernel_rfl
theorem may_run1 (c0 c1 c2 c3 c4 c5 c6 : Int) : callR P noCt 100 30 4 [.agg [.s .i64 c0, .s .i64 c1, .s .i64 c2, .s .i64 c3, .s .i64 c4, .s .i64 c5, .s .i64 c6]] [] [.cmp false, .cmp true] [] (.b false) [] [] =
    some [obB false (c0 < (1 : Int)), obB true ((4 : Int) < c0), false = false] := by kernel_rfl
theorem may_run2 (c0 c1 c2 c3 c4 c5 c6 : Int) : callR P noCt 100 30 4 [.agg [.s .i64 c0, .s .i64 c1, .s .i64 c2, .s .i64 c3, .s .i64 c4, .s .i64 c5, .s .i64 c6]] [] [.cmp false, .cmp false, .cmp true] [] (.b false) [] [] =
    some [obB false (c0 < (1 : Int)), obB false ((4 : Int) < c0), obB true (c1 < (1 : Int)), false = false] := by kernel_rfl
theorem may_run3 (c0 c1 c2 c3 c4 c5 c6 : Int) : callR P noCt 100 30 4 [.agg [.s .i64 c0, .s .i64 c1, .s .i64 c2, .s .i64 c3, .s .i64 c4, .s .i64 c5, .s .i64 c6]] [] [.cmp false, .cmp false, .cmp false, .cmp true] [] (.b false) [] [] =
    some [obB false (c0 < (1 : Int)), obB false ((4 : Int) < c0), obB false (c1 < (1 : Int)), obB true ((16 : Int) < c1), false = false] := by kernel_rfl
theorem may_run4 (c0 c1 c2 c3 c4 c5 c6 : Int) : callR P noCt 100 30 4 [.agg [.s .i64 c0, .s .i64 c1, .s .i64 c2, .s .i64 c3, .s .i64 c4, .s .i64 c5, .s .i64 c6]] [] [.cmp false, .cmp false, .cmp false, .cmp false, .cmp true] [] (.b false) [] [] =
    some [obB false (c0 < (1 : Int)), obB false ((4 : Int) < c0), obB false (c1 < (1 : Int)), obB false ((16 : Int) < c1), obB true (c2 < (1 : Int)), false = false] := by kernel_rfl
theorem may_run5 (c0 c1 c2 c3 c4 c5 c6 : Int) : callR P noCt 100 30 4 [.agg [.s .i64 c0, .s .i64 c1, .s .i64 c2, .s .i64 c3, .s .i64 c4, .s .i64 c5, .s .i64 c6]] [] [.cmp false, .cmp false, .cmp false, .cmp false, .cmp false, .cmp true] [] (.b false) [] [] =
    some [obB false (c0 < (1 : Int)), obB false ((4 : Int) < c0), obB false (c1 < (1 : Int)), obB false ((16 : Int) < c1), obB false (c2 < (1 : Int)), obB true ((8 : Int) < c2), false = false] := by kernel_rfl
theorem may_run6 (c0 c1 c2 c3 c4 c5 c6 : Int) : callR P noCt 100 30 4 [.agg [.s .i64 c0, .s .i64 c1, .s .i64 c2, .s .i64 c3, .s .i64 c4, .s .i64 c5, .s .i64 c6]] [] [.cmp false, .cmp false, .cmp false, .cmp false, .cmp false, .cmp false, .cmp true] [] (.b false) [] [] =
    some [obB false (c0 < (1 : Int)), obB false ((4 : Int) < c0), obB false (c1 < (1 : Int)), obB false ((16 : Int) < c1), obB false (c2 < (1 : Int)), obB false ((8 : Int) < c2), obB true (c3 < (1 : Int)), false = false] := by kernel_rfl
theorem may_run7 (c0 c1 c2 c3 c4 c5 c6 : Int) : callR P noCt 100 30 4 [.agg [.s .i64 c0, .s .i64 c1, .s .i64 c2, .s .i64 c3, .s .i64 c4, .s .i64 c5, .s .i64 c6]] [] [.cmp false, .cmp false, .cmp false, .cmp false, .cmp false, .cmp false, .cmp false, .cmp true] [] (.b false) [] [] =
    some [obB false (c0 < (1 : Int)), obB false ((4 : Int) < c0), obB false (c1 < (1 : Int)), obB false ((16 : Int) < c1), obB false (c2 < (1 : Int)), obB false ((8 : Int) < c2), obB false (c3 < (1 : Int)), obB true ((4 : Int) < c3), false = false] := by kernel_rfl
theorem may_run8 (c0 c1 c2 c3 c4 c5 c6 : Int) : callR P noCt 100 30 4 [.agg [.s .i64 c0, .s .i64 c1, .s .i64 c2, .s .i64 c3, .s .i64 c4, .s .i64 c5, .s .i64 c6]] [] [.cmp false, .cmp false, .cmp false, .cmp false, .cmp false, .cmp false, .cmp false, .cmp false, .cmp true] [] (.b false) [] [] =
    some [obB false (c0 < (1 : Int)), obB false ((4 : Int) < c0), obB false (c1 < (1 : Int)), obB false ((16 : Int) < c1), obB false (c2 < (1 : Int)), obB false ((8 : Int) < c2), obB false (c3 < (1 : Int)), obB false ((4 : Int) < c3), obB true (c4 < (1 : Int)), false = false] := by kernel_rfl
theorem may_run9 (c0 c1 c2 c3 c4 c5 c6 : Int) : callR P noCt 100 30 4 [.agg [.s .i64 c0, .s .i64 c1, .s .i64 c2, .s .i64 c3, .s .i64 c4, .s .i64 c5, .s .i64 c6]] [] [.cmp false, .cmp false, .cmp false, .cmp false, .cmp false, .cmp false, .cmp false, .cmp false, .cmp false, .cmp true] [] (.b false) [] [] =
    some [obB false (c0 < (1 : Int)), obB false ((4 : Int) < c0), obB false (c1 < (1 : Int)), obB false ((16 : Int) < c1), obB false (c2 < (1 : Int)), obB false ((8 : Int) < c2), obB false (c3 < (1 : Int)), obB false ((4 : Int) < c3), obB false (c4 < (1 : Int)), obB true ((16 : Int) < c4), false = false] := by kernel_rfl
theorem may_run10 (c0 c1 c2 c3 c4 c5 c6 : Int) : callR P noCt 100 30 4 [.agg [.s .i64 c0, .s .i64 c1, .s .i64 c2, .s .i64 c3, .s .i64 c4, .s .i64 c5, .s .i64 c6]] [] [.cmp false, .cmp false, .cmp false, .cmp false, .cmp false, .cmp false, .cmp false, .cmp false, .cmp false, .cmp false, .cmp true] [] (.b false) [] [] =
    some [obB false (c0 < (1 : Int)), obB false ((4 : Int) < c0), obB false (c1 < (1 : Int)), obB false ((16 : Int) < c1), obB false (c2 < (1 : Int)), obB false ((8 : Int) < c2), obB false (c3 < (1 : Int)), obB false ((4 : Int) < c3), obB false (c4 < (1 : Int)), obB false ((16 : Int) < c4), obB true (c5 < (1 : Int)), false = false] := by kernel_rfl
theorem may_run11 (c0 c1 c2 c3 c4 c5 c6 : Int) : callR P noCt 100 30 4 [.agg [.s .i64 c0, .s .i64 c1, .s .i64 c2, .s .i64 c3, .s .i64 c4, .s .i64 c5, .s .i64 c6]] [] [.cmp false, .cmp false, .cmp false, .cmp false, .cmp false, .cmp false, .cmp false, .cmp false, .cmp false, .cmp false, .cmp false, .cmp true] [] (.b false) [] [] =
    some [obB false (c0 < (1 : Int)), obB false ((4 : Int) < c0), obB false (c1 < (1 : Int)), obB false ((16 : Int) < c1), obB false (c2 < (1 : Int)), obB false ((8 : Int) < c2), obB false (c3 < (1 : Int)), obB false ((4 : Int) < c3), obB false (c4 < (1 : Int)), obB false ((16 : Int) < c4), obB false (c5 < (1 : Int)), obB true ((8 : Int) < c5), false = false] := by kernel_rfl
theorem may_run12 (c0 c1 c2 c3 c4 c5 c6 : Int) : callR P noCt 100 30 4 [.agg [.s .i64 c0, .s .i64 c1, .s .i64 c2, .s .i64 c3, .s .i64 c4, .s .i64 c5, .s .i64 c6]] [] [.cmp false, .cmp false, .cmp false, .cmp false, .cmp false, .cmp false, .cmp false, .cmp false, .cmp false, .cmp false, .cmp false, .cmp false, .cmp true] [] (.b false) [] [] =
    some [obB false (c0 < (1 : Int)), obB false ((4 : Int) < c0), obB false (c1 < (1 : Int)), obB false ((16 : Int) < c1), obB false (c2 < (1 : Int)), obB false ((8 : Int) < c2), obB false (c3 < (1 : Int)), obB false ((4 : Int) < c3), obB false (c4 < (1 : Int)), obB false ((16 : Int) < c4), obB false (c5 < (1 : Int)), obB false ((8 : Int) < c5), obB true (c6 < (1 : Int)), false = false] := by kernel_rfl
theorem may_run13 (c0 c1 c2 c3 c4 c5 c6 : Int) : callR P noCt 100 30 4 [.agg [.s .i64 c0, .s .i64 c1, .s .i64 c2, .s .i64 c3, .s .i64 c4, .s .i64 c5, .s .i64 c6]] [] [.cmp false, .cmp false, .cmp false, .cmp false, .cmp false, .cmp false, .cmp false, .cmp false, .cmp false, .cmp false, .cmp false, .cmp false, .cmp false, .cmp true] [] (.b false) [] [] =
    some [obB false (c0 < (1 : Int)), obB false ((4 : Int) < c0), obB false (c1 < (1 : Int)), obB false ((16 : Int) < c1), obB false (c2 < (1 : Int)), obB false ((8 : Int) < c2), obB false (c3 < (1 : Int)), obB false ((4 : Int) < c3), obB false (c4 < (1 : Int)), obB false ((16 : Int) < c4), obB false (c5 < (1 : Int)), obB false ((8 : Int) < c5), obB false (c6 < (1 : Int)), obB true ((4 : Int) < c6), false = false] := by kernel_rfl
theorem may_run14 (c0 c1 c2 c3 c4 c5 c6 : Int) : callR P noCt 100 30 4 [.agg [.s .i64 c0, .s .i64 c1, .s .i64 c2, .s .i64 c3, .s .i64 c4, .s .i64 c5, .s .i64 c6]] [] [.cmp false, .cmp false, .cmp false, .cmp false, .cmp false, .cmp false, .cmp false, .cmp false, .cmp false, .cmp false, .cmp false, .cmp false, .cmp false, .cmp false] [] (.b true) [] [] =
    some [obB false (c0 < (1 : Int)), obB false ((4 : Int) < c0), obB false (c1 < (1 : Int)), obB false ((16 : Int) < c1), obB false (c2 < (1 : Int)), obB false ((8 : Int) < c2), obB false (c3 < (1 : Int)), obB false ((4 : Int) < c3), obB false (c4 < (1 : Int)), obB false ((16 : Int) < c4), obB false (c5 < (1 : Int)), obB false ((8 : Int) < c5), obB false (c6 < (1 : Int)), obB false ((4 : Int) < c6), true = true] := by kernel_rfl
theorem may_trip (c0 c1 c2 c3 c4 c5 c6 : Int) : ((okI c0 c1 c2 c3 c4 c5 c6) → FTrip P 4 [.agg [.s .i64 c0, .s .i64 c1, .s .i64 c2, .s .i64 c3, .s .i64 c4, .s .i64 c5, .s .i64 c6]] [] (.b true) [] []) ∧ (¬ (okI c0 c1 c2 c3 c4 c5 c6) → FTrip P 4 [.agg [.s .i64 c0, .s .i64 c1, .s .i64 c2, .s .i64 c3, .s .i64 c4, .s .i64 c5, .s .i64 c6]] [] (.b false) [] []) := by
  by_cases h0 : c0 < (1 : Int)
  · exact ⟨fun hc => absurd hc (by simp only [okI] at *; omega), fun hc => FTrip.callR noCt_ok (may_run0 c0 c1 c2 c3 c4 c5 c6) (by (repeat' first | exact trivial | refine And.intro ?_ ?_) <;> first | exact obT (by assumption) | exact obF (by assumption) | rfl | exact obT (by simp only [okI] at *; omega) | exact obF (by simp only [okI] at *; omega) | exact wrap_i64 (by simp only [okI] at *; omega) | (simp only [okI] at *; omega))⟩
  · by_cases h1 : (4 : Int) < c0
    · exact ⟨fun hc => absurd hc (by simp only [okI] at *; omega), fun hc => FTrip.callR noCt_ok (may_run1 c0 c1 c2 c3 c4 c5 c6) (by (repeat' first | exact trivial | refine And.intro ?_ ?_) <;> first | exact obT (by assumption) | exact obF (by assumption) | rfl | exact obT (by simp only [okI] at *; omega) | exact obF (by simp only [okI] at *; omega) | exact wrap_i64 (by simp only [okI] at *; omega) | (simp only [okI] at *; omega))⟩
    · by_cases h2 : c1 < (1 : Int)
      · exact ⟨fun hc => absurd hc (by simp only [okI] at *; omega), fun hc => FTrip.callR noCt_ok (may_run2 c0 c1 c2 c3 c4 c5 c6) (by (repeat' first | exact trivial | refine And.intro ?_ ?_) <;> first | exact obT (by assumption) | exact obF (by assumption) | rfl | exact obT (by simp only [okI] at *; omega) | exact obF (by simp only [okI] at *; omega) | exact wrap_i64 (by simp only [okI] at *; omega) | (simp only [okI] at *; omega))⟩
      · by_cases h3 : (16 : Int) < c1
        · exact ⟨fun hc => absurd hc (by simp only [okI] at *; omega), fun hc => FTrip.callR noCt_ok (may_run3 c0 c1 c2 c3 c4 c5 c6) (by (repeat' first | exact trivial | refine And.intro ?_ ?_) <;> first | exact obT (by assumption) | exact obF (by assumption) | rfl | exact obT (by simp only [okI] at *; omega) | exact obF (by simp only [okI] at *; omega) | exact wrap_i64 (by simp only [okI] at *; omega) | (simp only [okI] at *; omega))⟩
        · by_cases h4 : c2 < (1 : Int)
          · exact ⟨fun hc => absurd hc (by simp only [okI] at *; omega), fun hc => FTrip.callR noCt_ok (may_run4 c0 c1 c2 c3 c4 c5 c6) (by (repeat' first | exact trivial | refine And.intro ?_ ?_) <;> first | exact obT (by assumption) | exact obF (by assumption) | rfl | exact obT (by simp only [okI] at *; omega) | exact obF (by simp only [okI] at *; omega) | exact wrap_i64 (by simp only [okI] at *; omega) | (simp only [okI] at *; omega))⟩
          · by_cases h5 : (8 : Int) < c2
            · exact ⟨fun hc => absurd hc (by simp only [okI] at *; omega), fun hc => FTrip.callR noCt_ok (may_run5 c0 c1 c2 c3 c4 c5 c6) (by (repeat' first | exact trivial | refine And.intro ?_ ?_) <;> first | exact obT (by assumption) | exact obF (by assumption) | rfl | exact obT (by simp only [okI] at *; omega) | exact obF (by simp only [okI] at *; omega) | exact wrap_i64 (by simp only [okI] at *; omega) | (simp only [okI] at *; omega))⟩
            · by_cases h6 : c3 < (1 : Int)
              · exact ⟨fun hc => absurd hc (by simp only [okI] at *; omega), fun hc => FTrip.callR noCt_ok (may_run6 c0 c1 c2 c3 c4 c5 c6) (by (repeat' first | exact trivial | refine And.intro ?_ ?_) <;> first | exact obT (by assumption) | exact obF (by assumption) | rfl | exact obT (by simp only [okI] at *; omega) | exact obF (by simp only [okI] at *; omega) | exact wrap_i64 (by simp only [okI] at *; omega) | (simp only [okI] at *; omega))⟩
              · by_cases h7 : (4 : Int) < c3
                · exact ⟨fun hc => absurd hc (by simp only [okI] at *; omega), fun hc => FTrip.callR noCt_ok (may_run7 c0 c1 c2 c3 c4 c5 c6) (by (repeat' first | exact trivial | refine And.intro ?_ ?_) <;> first | exact obT (by assumption) | exact obF (by assumption) | rfl | exact obT (by simp only [okI] at *; omega) | exact obF (by simp only [okI] at *; omega) | exact wrap_i64 (by simp only [okI] at *; omega) | (simp only [okI] at *; omega))⟩
                · by_cases h8 : c4 < (1 : Int)
                  · exact ⟨fun hc => absurd hc (by simp only [okI] at *; omega), fun hc => FTrip.callR noCt_ok (may_run8 c0 c1 c2 c3 c4 c5 c6) (by (repeat' first | exact trivial | refine And.intro ?_ ?_) <;> first | exact obT (by assumption) | exact obF (by assumption) | rfl | exact obT (by simp only [okI] at *; omega) | exact obF (by simp only [okI] at *; omega) | exact wrap_i64 (by simp only [okI] at *; omega) | (simp only [okI] at *; omega))⟩
                  · by_cases h9 : (16 : Int) < c4
                    · exact ⟨fun hc => absurd hc (by simp only [okI] at *; omega), fun hc => FTrip.callR noCt_ok (may_run9 c0 c1 c2 c3 c4 c5 c6) (by (repeat' first | exact trivial | refine And.intro ?_ ?_) <;> first | exact obT (by assumption) | exact obF (by assumption) | rfl | exact obT (by simp only [okI] at *; omega) | exact obF (by simp only [okI] at *; omega) | exact wrap_i64 (by simp only [okI] at *; omega) | (simp only [okI] at *; omega))⟩
                    · by_cases h10 : c5 < (1 : Int)
                      · exact ⟨fun hc => absurd hc (by simp only [okI] at *; omega), fun hc => FTrip.callR noCt_ok (may_run10 c0 c1 c2 c3 c4 c5 c6) (by (repeat' first | exact trivial | refine And.intro ?_ ?_) <;> first | exact obT (by assumption) | exact obF (by assumption) | rfl | exact obT (by simp only [okI] at *; omega) | exact obF (by simp only [okI] at *; omega) | exact wrap_i64 (by simp only [okI] at *; omega) | (simp only [okI] at *; omega))⟩
                      · by_cases h11 : (8 : Int) < c5
                        · exact ⟨fun hc => absurd hc (by simp only [okI] at *; omega), fun hc => FTrip.callR noCt_ok (may_run11 c0 c1 c2 c3 c4 c5 c6) (by (repeat' first | exact trivial | refine And.intro ?_ ?_) <;> first | exact obT (by assumption) | exact obF (by assumption) | rfl | exact obT (by simp only [okI] at *; omega) | exact obF (by simp only [okI] at *; omega) | exact wrap_i64 (by simp only [okI] at *; omega) | (simp only [okI] at *; omega))⟩
                        · by_cases h12 : c6 < (1 : Int)
                          · exact ⟨fun hc => absurd hc (by simp only [okI] at *; omega), fun hc => FTrip.callR noCt_ok (may_run12 c0 c1 c2 c3 c4 c5 c6) (by (repeat' first | exact trivial | refine And.intro ?_ ?_) <;> first | exact obT (by assumption) | exact obF (by assumption) | rfl | exact obT (by simp only [okI] at *; omega) | exact obF (by simp only [okI] at *; omega) | exact wrap_i64 (by simp only [okI] at *; omega) | (simp only [okI] at *; omega))⟩
                          · by_cases h13 : (4 : Int) < c6
                            · exact ⟨fun hc => absurd hc (by simp only [okI] at *; omega), fun hc => FTrip.callR noCt_ok (may_run13 c0 c1 c2 c3 c4 c5 c6) (by (repeat' first | exact trivial | refine And.intro ?_ ?_) <;> first | exact obT (by assumption) | exact obF (by assumption) | rfl | exact obT (by simp only [okI] at *; omega) | exact obF (by simp only [okI] at *; omega) | exact wrap_i64 (by simp only [okI] at *; omega) | (simp only [okI] at *; omega))⟩
                            · exact ⟨fun hc => FTrip.callR noCt_ok (may_run14 c0 c1 c2 c3 c4 c5 c6) (by (repeat' first | exact trivial | refine And.intro ?_ ?_) <;> first | exact obT (by assumption) | exact obF (by assumption) | rfl | exact obT (by simp only [okI] at *; omega) | exact obF (by simp only [okI] at *; omega) | exact wrap_i64 (by simp only [okI] at *; omega) | (simp only [okI] at *; omega)), fun hc => absurd (by simp only [okI] at *; omega) hc⟩
def mayS : List LV → List Vse.Tok → List Ans → FOut := fun args m an =>
  match symLs args, m with
  | [.agg [.s .i64 c0, .s .i64 c1, .s .i64 c2, .s .i64 c3, .s .i64 c4, .s .i64 c5, .s .i64 c6]], [] =>
    (match askB (okI c0 c1 c2 c3 c4 c5 c6) an with | some (r, ob, an) => some (bif r then .b true else .b false, [], [], ob, an) | none => none)
  | _, _ => none
theorem mayS_ok : SpecOK P 4 mayS := fun args m an v m' wr ob an' h ho => by
  unfold mayS at h
  split at h
  · rename_i c0 c1 c2 c3 c4 c5 c6 he
    split at h
    · rename_i r ob an1 hask
      cases h
      skip
      have hr := askB_sound hask ho
      cases r with
      | true => exact ((may_trip c0 c1 c2 c3 c4 c5 c6).1 (hr.1 rfl)).args (by rw [he]; rfl)
      | false => exact ((may_trip c0 c1 c2 c3 c4 c5 c6).2 (fun h => by have := hr.2 h; cases this)).args (by rw [he]; rfl)
    · cases h
  · cases h
theorem check_run (c0 c1 c2 c3 c4 c5 c6 : Int) : callR P noCt 100 30 16 [.agg [.s .i64 c0, .s .i64 c1, .s .i64 c2, .s .i64 c3, .s .i64 c4, .s .i64 c5, .s .i64 c6]] [] [.cmp false, .cmp false, .cmp false, .cmp false, .cmp false, .cmp false, .cmp false, .cmp false, .cmp false, .cmp false, .cmp false, .cmp false, .cmp false, .cmp false] [] (.i .i64 0) [] [] =
    some [obB false (c0 < (1 : Int)), obB false ((4 : Int) < c0), obB false (c1 < (1 : Int)), obB false ((16 : Int) < c1), obB false (c2 < (1 : Int)), obB false ((8 : Int) < c2), obB false (c3 < (1 : Int)), obB false ((4 : Int) < c3), obB false (c4 < (1 : Int)), obB false ((16 : Int) < c4), obB false (c5 < (1 : Int)), obB false ((8 : Int) < c5), obB false (c6 < (1 : Int)), obB false ((4 : Int) < c6), (0 : Int) = (0 : Int)] := by kernel_rfl
theorem check_trip {c0 c1 c2 c3 c4 c5 c6 : Int} (hc : okI c0 c1 c2 c3 c4 c5 c6) : FTrip P 16 [.agg [.s .i64 c0, .s .i64 c1, .s .i64 c2, .s .i64 c3, .s .i64 c4, .s .i64 c5, .s .i64 c6]] [] (.i .i64 0) [] [] := by
  simp only [okI] at hc
  exact FTrip.callR noCt_ok (check_run c0 c1 c2 c3 c4 c5 c6) (by (repeat' first | with_reducible exact AllP_nil | with_reducible refine AllP_cons ?_ ?_ | with_reducible refine And.intro ?_ ?_) <;> first | rfl | assumption | exact obT (by assumption) | exact obF (by assumption) | exact obT (by omega) | exact obF (by omega) | exact wrap_i64 (by omega) | (omega))
def checkC : List LV → List Vse.Tok → List Ans → FOut := fun args m an =>
  match symLs args, m with
  | [.agg [.s .i64 c0, .s .i64 c1, .s .i64 c2, .s .i64 c3, .s .i64 c4, .s .i64 c5, .s .i64 c6]], [] => some (.i .i64 0, [], [], [okI c0 c1 c2 c3 c4 c5 c6], an)
  | _, _ => none
theorem checkC_ok : SpecOK P 16 checkC := fun args m an v m' wr ob an' h ho => by
  unfold checkC at h
  split at h
  · rename_i c0 c1 c2 c3 c4 c5 c6 he
    cases h
    simp only [AllP, and_true] at ho
    exact (check_trip ho).args (by rw [he]; rfl)
  · cases h
def ctB : Ctrs := fun f => if f = 4 then some (.spec mayS) else if f = 16 then some (.spec checkC) else if f = 5 then some .dark else none
theorem ctB_ok : CtOK P ctB := fun f s h => by
  unfold ctB at h
  split at h
  · rename_i e; subst e; cases h; exact mayS_ok
  · skip
    split at h
    · rename_i e; subst e; cases h; exact checkC_ok
    · skip
      split at h
      · cases h
      · skip
        cases h
theorem awake_run : outC (callX (runF P noCt 100 30) (.fn 5) [] [] 0 []) = some (.b true, [], [], []) := by kernel_rfl
theorem awake_pure : PureOK P 5 [] (.b true) := pureOK_of noCt_ok awake_run trivial
theorem AllP_rep {p : Prop} (h : p) : ∀ n, AllP (List.replicate n p)
  | 0 => trivial
  | n + 1 => ⟨h, AllP_rep h n⟩
end Go.Proofs.Ytinblcmgnjcnlaa
