/- What the laws have in common: which configurations may be; the document's memory, made; the chapter's example. -/
import Derived.Test.YtpnfdndjaepbbaaBankI
namespace Go.Proofs.Ytpnfdndjaepbbaa
open Go Go.Vse
set_option maxRecDepth 100000
set_option maxHeartbeats 4000000

theorem may_run0 (c0 c1 c2 c3 c4 c5 c6 : Int) : callR P noCt 100 30 6 [.agg [.s .i64 c0, .s .i64 c1, .s .i64 c2, .s .i64 c3, .s .i64 c4, .s .i64 c5, .s .i64 c6]] [] [.cmp true] [] (.b false) [] [] =
    some [obB true (c0 < (1 : Int)), false = false] := by kernel_rfl
theorem may_run1 (c0 c1 c2 c3 c4 c5 c6 : Int) : callR P noCt 100 30 6 [.agg [.s .i64 c0, .s .i64 c1, .s .i64 c2, .s .i64 c3, .s .i64 c4, .s .i64 c5, .s .i64 c6]] [] [.cmp false, .cmp true] [] (.b false) [] [] =
    some [obB false (c0 < (1 : Int)), obB true ((4 : Int) < c0), false = false] := by kernel_rfl
theorem may_run2 (c0 c1 c2 c3 c4 c5 c6 : Int) : callR P noCt 100 30 6 [.agg [.s .i64 c0, .s .i64 c1, .s .i64 c2, .s .i64 c3, .s .i64 c4, .s .i64 c5, .s .i64 c6]] [] [.cmp false, .cmp false, .cmp true] [] (.b false) [] [] =
    some [obB false (c0 < (1 : Int)), obB false ((4 : Int) < c0), obB true (c1 < (1 : Int)), false = false] := by kernel_rfl
theorem may_run3 (c0 c1 c2 c3 c4 c5 c6 : Int) : callR P noCt 100 30 6 [.agg [.s .i64 c0, .s .i64 c1, .s .i64 c2, .s .i64 c3, .s .i64 c4, .s .i64 c5, .s .i64 c6]] [] [.cmp false, .cmp false, .cmp false, .cmp true] [] (.b false) [] [] =
    some [obB false (c0 < (1 : Int)), obB false ((4 : Int) < c0), obB false (c1 < (1 : Int)), obB true ((16 : Int) < c1), false = false] := by kernel_rfl
theorem may_run4 (c0 c1 c2 c3 c4 c5 c6 : Int) : callR P noCt 100 30 6 [.agg [.s .i64 c0, .s .i64 c1, .s .i64 c2, .s .i64 c3, .s .i64 c4, .s .i64 c5, .s .i64 c6]] [] [.cmp false, .cmp false, .cmp false, .cmp false, .cmp true] [] (.b false) [] [] =
    some [obB false (c0 < (1 : Int)), obB false ((4 : Int) < c0), obB false (c1 < (1 : Int)), obB false ((16 : Int) < c1), obB true (c2 < (1 : Int)), false = false] := by kernel_rfl
theorem may_run5 (c0 c1 c2 c3 c4 c5 c6 : Int) : callR P noCt 100 30 6 [.agg [.s .i64 c0, .s .i64 c1, .s .i64 c2, .s .i64 c3, .s .i64 c4, .s .i64 c5, .s .i64 c6]] [] [.cmp false, .cmp false, .cmp false, .cmp false, .cmp false, .cmp true] [] (.b false) [] [] =
    some [obB false (c0 < (1 : Int)), obB false ((4 : Int) < c0), obB false (c1 < (1 : Int)), obB false ((16 : Int) < c1), obB false (c2 < (1 : Int)), obB true ((8 : Int) < c2), false = false] := by kernel_rfl
theorem may_run6 (c0 c1 c2 c3 c4 c5 c6 : Int) : callR P noCt 100 30 6 [.agg [.s .i64 c0, .s .i64 c1, .s .i64 c2, .s .i64 c3, .s .i64 c4, .s .i64 c5, .s .i64 c6]] [] [.cmp false, .cmp false, .cmp false, .cmp false, .cmp false, .cmp false, .cmp true] [] (.b false) [] [] =
    some [obB false (c0 < (1 : Int)), obB false ((4 : Int) < c0), obB false (c1 < (1 : Int)), obB false ((16 : Int) < c1), obB false (c2 < (1 : Int)), obB false ((8 : Int) < c2), obB true (c3 < (1 : Int)), false = false] := by kernel_rfl
theorem may_run7 (c0 c1 c2 c3 c4 c5 c6 : Int) : callR P noCt 100 30 6 [.agg [.s .i64 c0, .s .i64 c1, .s .i64 c2, .s .i64 c3, .s .i64 c4, .s .i64 c5, .s .i64 c6]] [] [.cmp false, .cmp false, .cmp false, .cmp false, .cmp false, .cmp false, .cmp false, .cmp true] [] (.b false) [] [] =
    some [obB false (c0 < (1 : Int)), obB false ((4 : Int) < c0), obB false (c1 < (1 : Int)), obB false ((16 : Int) < c1), obB false (c2 < (1 : Int)), obB false ((8 : Int) < c2), obB false (c3 < (1 : Int)), obB true ((4 : Int) < c3), false = false] := by kernel_rfl
theorem may_run8 (c0 c1 c2 c3 c4 c5 c6 : Int) : callR P noCt 100 30 6 [.agg [.s .i64 c0, .s .i64 c1, .s .i64 c2, .s .i64 c3, .s .i64 c4, .s .i64 c5, .s .i64 c6]] [] [.cmp false, .cmp false, .cmp false, .cmp false, .cmp false, .cmp false, .cmp false, .cmp false, .cmp true] [] (.b false) [] [] =
    some [obB false (c0 < (1 : Int)), obB false ((4 : Int) < c0), obB false (c1 < (1 : Int)), obB false ((16 : Int) < c1), obB false (c2 < (1 : Int)), obB false ((8 : Int) < c2), obB false (c3 < (1 : Int)), obB false ((4 : Int) < c3), obB true (c4 < (1 : Int)), false = false] := by kernel_rfl
theorem may_run9 (c0 c1 c2 c3 c4 c5 c6 : Int) : callR P noCt 100 30 6 [.agg [.s .i64 c0, .s .i64 c1, .s .i64 c2, .s .i64 c3, .s .i64 c4, .s .i64 c5, .s .i64 c6]] [] [.cmp false, .cmp false, .cmp false, .cmp false, .cmp false, .cmp false, .cmp false, .cmp false, .cmp false, .cmp true] [] (.b false) [] [] =
    some [obB false (c0 < (1 : Int)), obB false ((4 : Int) < c0), obB false (c1 < (1 : Int)), obB false ((16 : Int) < c1), obB false (c2 < (1 : Int)), obB false ((8 : Int) < c2), obB false (c3 < (1 : Int)), obB false ((4 : Int) < c3), obB false (c4 < (1 : Int)), obB true ((16 : Int) < c4), false = false] := by kernel_rfl
theorem may_run10 (c0 c1 c2 c3 c4 c5 c6 : Int) : callR P noCt 100 30 6 [.agg [.s .i64 c0, .s .i64 c1, .s .i64 c2, .s .i64 c3, .s .i64 c4, .s .i64 c5, .s .i64 c6]] [] [.cmp false, .cmp false, .cmp false, .cmp false, .cmp false, .cmp false, .cmp false, .cmp false, .cmp false, .cmp false, .cmp true] [] (.b false) [] [] =
    some [obB false (c0 < (1 : Int)), obB false ((4 : Int) < c0), obB false (c1 < (1 : Int)), obB false ((16 : Int) < c1), obB false (c2 < (1 : Int)), obB false ((8 : Int) < c2), obB false (c3 < (1 : Int)), obB false ((4 : Int) < c3), obB false (c4 < (1 : Int)), obB false ((16 : Int) < c4), obB true (c5 < (1 : Int)), false = false] := by kernel_rfl
theorem may_run11 (c0 c1 c2 c3 c4 c5 c6 : Int) : callR P noCt 100 30 6 [.agg [.s .i64 c0, .s .i64 c1, .s .i64 c2, .s .i64 c3, .s .i64 c4, .s .i64 c5, .s .i64 c6]] [] [.cmp false, .cmp false, .cmp false, .cmp false, .cmp false, .cmp false, .cmp false, .cmp false, .cmp false, .cmp false, .cmp false, .cmp true] [] (.b false) [] [] =
    some [obB false (c0 < (1 : Int)), obB false ((4 : Int) < c0), obB false (c1 < (1 : Int)), obB false ((16 : Int) < c1), obB false (c2 < (1 : Int)), obB false ((8 : Int) < c2), obB false (c3 < (1 : Int)), obB false ((4 : Int) < c3), obB false (c4 < (1 : Int)), obB false ((16 : Int) < c4), obB false (c5 < (1 : Int)), obB true ((8 : Int) < c5), false = false] := by kernel_rfl
theorem may_run12 (c0 c1 c2 c3 c4 c5 c6 : Int) : callR P noCt 100 30 6 [.agg [.s .i64 c0, .s .i64 c1, .s .i64 c2, .s .i64 c3, .s .i64 c4, .s .i64 c5, .s .i64 c6]] [] [.cmp false, .cmp false, .cmp false, .cmp false, .cmp false, .cmp false, .cmp false, .cmp false, .cmp false, .cmp false, .cmp false, .cmp false, .cmp true] [] (.b false) [] [] =
    some [obB false (c0 < (1 : Int)), obB false ((4 : Int) < c0), obB false (c1 < (1 : Int)), obB false ((16 : Int) < c1), obB false (c2 < (1 : Int)), obB false ((8 : Int) < c2), obB false (c3 < (1 : Int)), obB false ((4 : Int) < c3), obB false (c4 < (1 : Int)), obB false ((16 : Int) < c4), obB false (c5 < (1 : Int)), obB false ((8 : Int) < c5), obB true (c6 < (1 : Int)), false = false] := by kernel_rfl
theorem may_run13 (c0 c1 c2 c3 c4 c5 c6 : Int) : callR P noCt 100 30 6 [.agg [.s .i64 c0, .s .i64 c1, .s .i64 c2, .s .i64 c3, .s .i64 c4, .s .i64 c5, .s .i64 c6]] [] [.cmp false, .cmp false, .cmp false, .cmp false, .cmp false, .cmp false, .cmp false, .cmp false, .cmp false, .cmp false, .cmp false, .cmp false, .cmp false, .cmp true] [] (.b false) [] [] =
    some [obB false (c0 < (1 : Int)), obB false ((4 : Int) < c0), obB false (c1 < (1 : Int)), obB false ((16 : Int) < c1), obB false (c2 < (1 : Int)), obB false ((8 : Int) < c2), obB false (c3 < (1 : Int)), obB false ((4 : Int) < c3), obB false (c4 < (1 : Int)), obB false ((16 : Int) < c4), obB false (c5 < (1 : Int)), obB false ((8 : Int) < c5), obB false (c6 < (1 : Int)), obB true ((4 : Int) < c6), false = false] := by kernel_rfl
theorem may_run14 (c0 c1 c2 c3 c4 c5 c6 : Int) : callR P noCt 100 30 6 [.agg [.s .i64 c0, .s .i64 c1, .s .i64 c2, .s .i64 c3, .s .i64 c4, .s .i64 c5, .s .i64 c6]] [] [.cmp false, .cmp false, .cmp false, .cmp false, .cmp false, .cmp false, .cmp false, .cmp false, .cmp false, .cmp false, .cmp false, .cmp false, .cmp false, .cmp false] [] (.b true) [] [] =
    some [obB false (c0 < (1 : Int)), obB false ((4 : Int) < c0), obB false (c1 < (1 : Int)), obB false ((16 : Int) < c1), obB false (c2 < (1 : Int)), obB false ((8 : Int) < c2), obB false (c3 < (1 : Int)), obB false ((4 : Int) < c3), obB false (c4 < (1 : Int)), obB false ((16 : Int) < c4), obB false (c5 < (1 : Int)), obB false ((8 : Int) < c5), obB false (c6 < (1 : Int)), obB false ((4 : Int) < c6), true = true] := by kernel_rfl
theorem may_trip (c0 c1 c2 c3 c4 c5 c6 : Int) : ((okI c0 c1 c2 c3 c4 c5 c6) → FTrip P 6 [.agg [.s .i64 c0, .s .i64 c1, .s .i64 c2, .s .i64 c3, .s .i64 c4, .s .i64 c5, .s .i64 c6]] [] (.b true) [] []) ∧ (¬ (okI c0 c1 c2 c3 c4 c5 c6) → FTrip P 6 [.agg [.s .i64 c0, .s .i64 c1, .s .i64 c2, .s .i64 c3, .s .i64 c4, .s .i64 c5, .s .i64 c6]] [] (.b false) [] []) := by
  by_cases h0 : c0 < (1 : Int)
  · exact ⟨fun hc => absurd hc (by simp only [okI] at *; omega), fun hc => FTrip.callR noCt_ok (may_run0 c0 c1 c2 c3 c4 c5 c6) (by (repeat' first | exact trivial | refine And.intro ?_ ?_) <;> first | exact obT (by assumption) | exact obF (by assumption) | rfl | exact obT (by simp only [okI] at *; omega) | exact obF (by simp only [okI] at *; omega) | exact wrap_i64 (by simp only [okI] at *; omega) | (simp only [okI] at *; omega))⟩
  · by_cases h1 : (4 : Int) < c0
    · exact ⟨fun hc => absurd hc (by simp only [okI] at *; omega), fun hc => FTrip.callR noCt_ok (may_run1 c0 c1 c2 c3 c4 c5 c6) (by (repeat' first | exact trivial | refine And.intro ?_ ?_) <;> first | exact obT (by assumption) | exact obF (by assumption) | rfl | exact obT (by simp only [okI] at *; omega) | exact obF (by simp only [okI] at *; omega) | exact wrap_i64 (by simp only [okI] at *; omega) | (simp only [okI] at *; omega))⟩
    · by_cases h2 : c1 < (1 : Int)
      · exact ⟨fun hc => absurd hc (by simp only [okI] at *; omega), fun hc => FTrip.callR noCt_ok (may_run2 c0 c1 c2 c3 c4 c5 c6) (by (repeat' first | exact trivial | refine And.intro ?_ ?_) <;> first | exact obT (by assumption) | exact obF (by assumption) | rfl | exact obT (by simp only [okI] at *; omega) | exact obF (by simp only [okI] at *; omega) | exact wrap_i64 (by simp only [okI] at *; omega) | (simp only [okI] at *; omega))⟩
      · by_cases h3 : (16 : Int) < c1
        · exact ⟨fun hc => absurd hc (by simp only [okI] at *; omega), fun hc => FTrip.callR noCt_ok (may_run3 c0 c1 c2 c3 c4 c5 c6) (by (repeat' first | exact trivial | refine And.intro ?_ ?_) <;> first | exact obT (by assumption) | exact obF (by assumption) | rfl | exact obT (by simp only [okI] at *; omega) | exact obF (by simp only [okI] at *; omega) | exact wrap_i64 (by simp only [okI] at *; omega) | (simp only [okI] at *; omega))⟩
        · by_cases h4 : c2 < (1 : Int)
          · exact ⟨fun hc => absurd hc (by simp only [okI] at *; omega), fun hc => FTrip.callR noCt_ok (may_run4 c0 c1 c2 c3 c4 c5 c6) (by (repeat' first | exact trivial | refine And.intro ?_ ?_) <;> first | exact obT (by assumption) | exact obF (by assumption) | rfl | exact obT (by simp only [okI] at *; omega) | exact obF (by simp only [okI] at *; omega) | exact wrap_i64 (by simp only [okI] at *; omega) | (simp only [okI] at *; omega))⟩
          · by_cases h5 : (8 : Int) < c2
            · exact ⟨fun hc => absurd hc (by simp only [okI] at *; omega), fun hc => FTrip.callR noCt_ok (may_run5 c0 c1 c2 c3 c4 c5 c6) (by (repeat' first | exact trivial | refine And.intro ?_ ?_) <;> first | exact obT (by assumption) | exact obF (by assumption) | rfl | exact obT (by simp only [okI] at *; omega) | exact obF (by simp only [okI] at *; omega) | exact wrap_i64 (by simp only [okI] at *; omega) | (simp only [okI] at *; omega))⟩
            · by_cases h6 : c3 < (1 : Int)
              · exact ⟨fun hc => absurd hc (by simp only [okI] at *; omega), fun hc => FTrip.callR noCt_ok (may_run6 c0 c1 c2 c3 c4 c5 c6) (by (repeat' first | exact trivial | refine And.intro ?_ ?_) <;> first | exact obT (by assumption) | exact obF (by assumption) | rfl | exact obT (by simp only [okI] at *; omega) | exact obF (by simp only [okI] at *; omega) | exact wrap_i64 (by simp only [okI] at *; omega) | (simp only [okI] at *; omega))⟩
              · by_cases h7 : (4 : Int) < c3
                · exact ⟨fun hc => absurd hc (by simp only [okI] at *; omega), fun hc => FTrip.callR noCt_ok (may_run7 c0 c1 c2 c3 c4 c5 c6) (by (repeat' first | exact trivial | refine And.intro ?_ ?_) <;> first | exact obT (by assumption) | exact obF (by assumption) | rfl | exact obT (by simp only [okI] at *; omega) | exact obF (by simp only [okI] at *; omega) | exact wrap_i64 (by simp only [okI] at *; omega) | (simp only [okI] at *; omega))⟩
                · by_cases h8 : c4 < (1 : Int)
                  · exact ⟨fun hc => absurd hc (by simp only [okI] at *; omega), fun hc => FTrip.callR noCt_ok (may_run8 c0 c1 c2 c3 c4 c5 c6) (by (repeat' first | exact trivial | refine And.intro ?_ ?_) <;> first | exact obT (by assumption) | exact obF (by assumption) | rfl | exact obT (by simp only [okI] at *; omega) | exact obF (by simp only [okI] at *; omega) | exact wrap_i64 (by simp only [okI] at *; omega) | (simp only [okI] at *; omega))⟩
                  · by_cases h9 : (16 : Int) < c4
                    · exact ⟨fun hc => absurd hc (by simp only [okI] at *; omega), fun hc => FTrip.callR noCt_ok (may_run9 c0 c1 c2 c3 c4 c5 c6) (by (repeat' first | exact trivial | refine And.intro ?_ ?_) <;> first | exact obT (by assumption) | exact obF (by assumption) | rfl | exact obT (by simp only [okI] at *; omega) | exact obF (by simp only [okI] at *; omega) | exact wrap_i64 (by simp only [okI] at *; omega) | (simp only [okI] at *; omega))⟩
                    · by_cases h10 : c5 < (1 : Int)
                      · exact ⟨fun hc => absurd hc (by simp only [okI] at *; omega), fun hc => FTrip.callR noCt_ok (may_run10 c0 c1 c2 c3 c4 c5 c6) (by (repeat' first | exact trivial | refine And.intro ?_ ?_) <;> first | exact obT (by assumption) | exact obF (by assumption) | rfl | exact obT (by simp only [okI] at *; omega) | exact obF (by simp only [okI] at *; omega) | exact wrap_i64 (by simp only [okI] at *; omega) | (simp only [okI] at *; omega))⟩
                      · by_cases h11 : (8 : Int) < c5
                        · exact ⟨fun hc => absurd hc (by simp only [okI] at *; omega), fun hc => FTrip.callR noCt_ok (may_run11 c0 c1 c2 c3 c4 c5 c6) (by (repeat' first | exact trivial | refine And.intro ?_ ?_) <;> first | exact obT (by assumption) | exact obF (by assumption) | rfl | exact obT (by simp only [okI] at *; omega) | exact obF (by simp only [okI] at *; omega) | exact wrap_i64 (by simp only [okI] at *; omega) | (simp only [okI] at *; omega))⟩
                        · by_cases h12 : c6 < (1 : Int)
                          · exact ⟨fun hc => absurd hc (by simp only [okI] at *; omega), fun hc => FTrip.callR noCt_ok (may_run12 c0 c1 c2 c3 c4 c5 c6) (by (repeat' first | exact trivial | refine And.intro ?_ ?_) <;> first | exact obT (by assumption) | exact obF (by assumption) | rfl | exact obT (by simp only [okI] at *; omega) | exact obF (by simp only [okI] at *; omega) | exact wrap_i64 (by simp only [okI] at *; omega) | (simp only [okI] at *; omega))⟩
                          · by_cases h13 : (4 : Int) < c6
                            · exact ⟨fun hc => absurd hc (by simp only [okI] at *; omega), fun hc => FTrip.callR noCt_ok (may_run13 c0 c1 c2 c3 c4 c5 c6) (by (repeat' first | exact trivial | refine And.intro ?_ ?_) <;> first | exact obT (by assumption) | exact obF (by assumption) | rfl | exact obT (by simp only [okI] at *; omega) | exact obF (by simp only [okI] at *; omega) | exact wrap_i64 (by simp only [okI] at *; omega) | (simp only [okI] at *; omega))⟩
                            · exact ⟨fun hc => FTrip.callR noCt_ok (may_run14 c0 c1 c2 c3 c4 c5 c6) (by (repeat' first | exact trivial | refine And.intro ?_ ?_) <;> first | exact obT (by assumption) | exact obF (by assumption) | rfl | exact obT (by simp only [okI] at *; omega) | exact obF (by simp only [okI] at *; omega) | exact wrap_i64 (by simp only [okI] at *; omega) | (simp only [okI] at *; omega)), fun hc => absurd (by simp only [okI] at *; omega) hc⟩
def mayS : List LV → List Vse.Tok → List Ans → FOut := fun args m an =>
  match symLs args, m with
  | [.agg [.s .i64 c0, .s .i64 c1, .s .i64 c2, .s .i64 c3, .s .i64 c4, .s .i64 c5, .s .i64 c6]], [] =>
    (match askB (okI c0 c1 c2 c3 c4 c5 c6) an with | some (r, ob, an) => some (bif r then .b true else .b false, [], [], ob, an) | none => none)
  | _, _ => none
theorem mayS_ok : SpecOK P 6 mayS := fun args m an v m' wr ob an' h ho => by
  unfold mayS at h
  split at h
  · rename_i c0 c1 c2 c3 c4 c5 c6 he
    split at h
    · rename_i r ob an1 hask
      cases h
      skip
      have hr := askB_sound hask ho
      cases r with
      | true => exact ((may_trip c0 c1 c2 c3 c4 c5 c6).1 (hr.1 rfl)).args (by rw [he]; rfl)
      | false => exact ((may_trip c0 c1 c2 c3 c4 c5 c6).2 (fun h => by have := hr.2 h; cases this)).args (by rw [he]; rfl)
    · cases h
  · cases h
theorem bytesI : P.bytesOf 3 = 8 := by kernel_rfl
theorem roomI {n : Nat} (h : n ≤ 1000) : bytesOk P 3 n = true := by
  unfold bytesOk
  simp only [bytesI, Bool.and_eq_true, decide_eq_true_eq]
  omega
theorem wordS_zero {n : Nat} : repS [Sc.i .i64 0] n = wordS W0 n := by
  unfold repS wordS W0
  refine List.map_congr_left (fun i _ => ?_)
  simp [Nat.mod_one]
theorem awake_run : outC (callX (runF P noCt 100 30) (.fn 8) [] [] 0 []) = some (.b true, [], [], []) := by kernel_rfl
theorem awake_ok : CallOK P 8 [] [] (.b true) [] := callOK_of noCt_ok awake_run trivial
theorem rnew_run (c0 c1 c2 c3 c4 c5 c6 : Int) : callR P noCt 100 30 10 [.s .i64 c1, .s .i64 c6] [] [] [some 1, some 0] (.p 0 0) (repR (newA c0 c1 c2 c3 c4 c5 c6)) [] =
    some [IntKind.i64.wrap ((4 : Int) * c1) = (4 : Int) * c1, (4 : Int) * c1 = (4 : Int) * c1, (0 : Int) ≤ (4 : Int) * c1, (4 : Int) * c1 ≤ (1000000 : Int), bytesOk P 3 ((4 : Int) * c1).toNat = true, ((4 : Int) * c1).toNat = 4 * c1.toNat, c6 = c6, (0 : Int) = (0 : Int), (0 : Int) = (0 : Int), (0 : Int) = (0 : Int), (0 : Int) = (0 : Int), (0 : Int) = (0 : Int), (0 : Int) = (0 : Int), (0 : Int) = (0 : Int), (0 : Int) = (0 : Int), repS [Sc.i IntKind.i64 0] (((4 : Int) * c1).toNat * 1) = wordS (newA c0 c1 c2 c3 c4 c5 c6).W (4 * c1.toNat)] := by kernel_rfl
theorem rnew_res (c0 c1 c2 c3 c4 c5 c6 : Int) : resW [] [some 0] (.p 0 0) (shutM (repR (newA c0 c1 c2 c3 c4 c5 c6)) 0 [1] (.ref (newA c0 c1 c2 c3 c4 c5 c6) : Abst.Ab)) (.p 0 0) [.abs (.ref (newA c0 c1 c2 c3 c4 c5 c6) : Abst.Ab)] [] =
    some [AbT.ref { c0 := c0, c1 := c1, c2 := c2, c3 := c3, c4 := c4, c5 := c5, c6 := c6, W := W0, R := W0, Q := W0 } = AbT.ref { c0 := c0, c1 := c1, c2 := c2, c3 := c3, c4 := c4, c5 := c5, c6 := c6, W := W0, R := W0, Q := W0 }] := by kernel_rfl
theorem rnew_trip {c0 c1 c2 c3 c4 c5 c6 : Int} (hc : okI c0 c1 c2 c3 c4 c5 c6) : FTrip P 10 [.s .i64 c1, .s .i64 c6] [] (.p 0 0) [.abs (.ref (newA c0 c1 c2 c3 c4 c5 c6) : Abst.Ab)] [] := by
  have ho := hc
  simp only [okI] at ho
  have h := FTrip.callR noCt_ok (rnew_run c0 c1 c2 c3 c4 c5 c6) (by (with_reducible repeat' first | exact AllP_nil | refine AllP_cons ?_ ?_ | refine And.intro ?_ ?_) <;> first | rfl | assumption | exact roomI (by omega) | (rw [show (4 * c1).toNat * 1 = 4 * c1.toNat by omega]; exact wordS_zero) | (rw [show (4 * c1).toNat = 4 * c1.toNat by omega]; exact wordS_zero) | exact obT (by first | assumption | omega) | exact obF (by first | assumption | omega) | exact wrap_i64 (by omega) | omega)
  exact (h.shut (k := 0) (J := [1]) (refOK (a := (newA c0 c1 c2 c3 c4 c5 c6)) hc) rfl rfl rfl).res (rnew_res c0 c1 c2 c3 c4 c5 c6) (by (with_reducible repeat' first | exact AllP_nil | refine AllP_cons ?_ ?_ | refine And.intro ?_ ?_) <;> first | rfl | assumption | exact obT (by first | assumption | omega) | exact obF (by first | assumption | omega) | exact wrap_i64 (by omega) | omega)
def rnewS (a : MM) : List LV → List Vse.Tok → List Ans → FOut := specT (σ := Unit) (fun _ _ => some ()) (fun _ => [.s .i64 a.c1, .s .i64 a.c6]) (fun _ => []) (fun _ => [a.ok, a = newA a.c0 a.c1 a.c2 a.c3 a.c4 a.c5 a.c6]) (fun _ => .p 0 0) (fun _ => [.abs (.ref a : Abst.Ab)]) []
theorem rnewS_ok (a : MM) : SpecOK P 10 (rnewS a) := specT_ok (fun _ ho => by
  simp only [AllP, and_true] at ho
  have := rnew_trip ho.1
  rw [← ho.2] at this
  exact this)
end Go.Proofs.Ytpnfdndjaepbbaa
