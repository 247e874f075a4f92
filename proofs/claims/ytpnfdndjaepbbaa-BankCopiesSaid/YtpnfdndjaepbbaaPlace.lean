/- What the places are, of a configuration that may be. -/
import Derived.Test.YtpnfdndjaepbbaaAb
namespace Go.Proofs.Ytpnfdndjaepbbaa
open Go Go.Vse
set_option maxRecDepth 100000
set_option maxHeartbeats 4000000
abbrev zPlace0 (c0 : Int) (c1 : Int) (c2 : Int) (c3 : Int) (c4 : Int) (c5 : Int) (c6 : Int) : List LV := [LV.agg [sI c0, sI c1, sI c2, sI c3, sI c4, sI c5, sI c6]]
/-- A configuration that may be. -/

abbrev CfP := Int × Int × Int × Int × Int × Int × Int
abbrev cfL : CfP → LV := fun (c0, c1, c2, c3, c4, c5, c6) => .agg [.s .i64 c0, .s .i64 c1, .s .i64 c2, .s .i64 c3, .s .i64 c4, .s .i64 c5, .s .i64 c6]
abbrev okP : CfP → Prop := fun (c0, c1, c2, c3, c4, c5, c6) => okI c0 c1 c2 c3 c4 c5 c6
def getCf : List LV → Option CfP
  | .agg [.s _ c0, .s _ c1, .s _ c2, .s _ c3, .s _ c4, .s _ c5, .s _ c6] :: _ => some (c0, c1, c2, c3, c4, c5, c6)
  | _ => none
def getCf2 : List LV → Option (CfP × Int)
  | .agg [.s _ c0, .s _ c1, .s _ c2, .s _ c3, .s _ c4, .s _ c5, .s _ c6] :: .s _ x :: _ => some ((c0, c1, c2, c3, c4, c5, c6), x)
  | _ => none
theorem check_run (c0 c1 c2 c3 c4 c5 c6 : Int) : callR P noCt 100 30 27 [.agg [.s .i64 c0, .s .i64 c1, .s .i64 c2, .s .i64 c3, .s .i64 c4, .s .i64 c5, .s .i64 c6]] [] [.cmp false, .cmp false, .cmp false, .cmp false, .cmp false, .cmp false, .cmp false, .cmp false, .cmp false, .cmp false, .cmp false, .cmp false, .cmp false, .cmp false] [] (.i .i64 0) [] [] =
    some [obB false (c0 < (1 : Int)), obB false ((4 : Int) < c0), obB false (c1 < (1 : Int)), obB false ((16 : Int) < c1), obB false (c2 < (1 : Int)), obB false ((8 : Int) < c2), obB false (c3 < (1 : Int)), obB false ((4 : Int) < c3), obB false (c4 < (1 : Int)), obB false ((16 : Int) < c4), obB false (c5 < (1 : Int)), obB false ((8 : Int) < c5), obB false (c6 < (1 : Int)), obB false ((4 : Int) < c6), (0 : Int) = (0 : Int)] := by kernel_rfl
theorem check_trip {c0 c1 c2 c3 c4 c5 c6 : Int} (hc : okI c0 c1 c2 c3 c4 c5 c6) : FTrip P 27 [.agg [.s .i64 c0, .s .i64 c1, .s .i64 c2, .s .i64 c3, .s .i64 c4, .s .i64 c5, .s .i64 c6]] [] (.i .i64 0) [] [] := by
  simp only [okI] at hc
  exact FTrip.callR noCt_ok (check_run c0 c1 c2 c3 c4 c5 c6) (by (with_reducible repeat' first | exact AllP_nil | refine AllP_cons ?_ ?_ | refine And.intro ?_ ?_) <;> first | rfl | assumption | exact obT (by first | assumption | omega) | exact obF (by first | assumption | omega) | exact wrap_i64 (by omega) | omega)
def checkS := specT (fun args _ => getCf args) (fun p => [cfL p]) (fun _ => []) (fun p => [okP p]) (fun _ => .i .i64 0) (fun _ => []) []
theorem checkS_ok : SpecOK P 27 checkS := specT_ok (fun p ho => by
  simp only [AllP, and_true] at ho
  exact check_trip ho)
def ctP1 : Ctrs := fun f => if f = 27 then some (.spec checkS) else none
theorem ctP1_ok : CtOK P ctP1 := fun f s h => by
  unfold ctP1 at h
  split at h
  · rename_i e; subst e; cases h; exact checkS_ok
  · skip
    cases h
theorem lines_run (c0 c1 c2 c3 c4 c5 c6 : Int) : callR P ctP1 100 30 14 [.agg [.s .i64 c0, .s .i64 c1, .s .i64 c2, .s .i64 c3, .s .i64 c4, .s .i64 c5, .s .i64 c6]] [] [] [] (.s .i64 (c1 * 2)) [] [] =
    some [(zPlace0 c0 c1 c2 c3 c4 c5 c6) = (zPlace0 c0 c1 c2 c3 c4 c5 c6), ([] : List Vse.Tok) = [], okP (c0, c1, c2, c3, c4, c5, c6), IntKind.i64.wrap (c1 * (2 : Int)) = c1 * (2 : Int), c1 * (2 : Int) = c1 * (2 : Int)] := by kernel_rfl
theorem lines_trip {c0 c1 c2 c3 c4 c5 c6 : Int} (hc : okI c0 c1 c2 c3 c4 c5 c6) : FTrip P 14 [.agg [.s .i64 c0, .s .i64 c1, .s .i64 c2, .s .i64 c3, .s .i64 c4, .s .i64 c5, .s .i64 c6]] [] (.s .i64 (c1 * 2)) [] [] := by
  have hc' := hc
  simp only [okI] at hc'
  exact FTrip.callR ctP1_ok (lines_run c0 c1 c2 c3 c4 c5 c6) (by (with_reducible repeat' first | exact AllP_nil | refine AllP_cons ?_ ?_ | refine And.intro ?_ ?_) <;> first | rfl | assumption | exact obT (by first | assumption | omega) | exact obF (by first | assumption | omega) | exact wrap_i64 (by omega) | omega)
def linesS := specT (fun args _ => getCf args) (fun p => [cfL p]) (fun _ => []) (fun p => [okP p]) (fun p => .s .i64 (p.2.1 * 2)) (fun _ => []) []
theorem linesS_ok : SpecOK P 14 linesS := specT_ok (fun p ho => by
  simp only [AllP, and_true] at ho
  exact lines_trip ho)
def ctP2 : Ctrs := fun f => if f = 27 then some (.spec checkS) else if f = 14 then some (.spec linesS) else none
theorem ctP2_ok : CtOK P ctP2 := fun f s h => by
  unfold ctP2 at h
  split at h
  · rename_i e; subst e; cases h; exact checkS_ok
  · skip
    split at h
    · rename_i e; subst e; cases h; exact linesS_ok
    · skip
      cases h
theorem words_run (c0 c1 c2 c3 c4 c5 c6 : Int) : callR P ctP2 100 30 18 [.agg [.s .i64 c0, .s .i64 c1, .s .i64 c2, .s .i64 c3, .s .i64 c4, .s .i64 c5, .s .i64 c6]] [] [] [] (.s .i64 (c1 * 2 * 2)) [] [] =
    some [(zPlace0 c0 c1 c2 c3 c4 c5 c6) = (zPlace0 c0 c1 c2 c3 c4 c5 c6), ([] : List Vse.Tok) = [], okP (c0, c1, c2, c3, c4, c5, c6), IntKind.i64.wrap (c1 * (2 : Int) * (2 : Int)) = c1 * (2 : Int) * (2 : Int), c1 * (2 : Int) * (2 : Int) = c1 * (2 : Int) * (2 : Int)] := by kernel_rfl
theorem line_lo (c0 c1 c2 c3 c4 c5 c6 : Int) (x : Int) : callR P ctP2 100 30 20 [.agg [.s .i64 c0, .s .i64 c1, .s .i64 c2, .s .i64 c3, .s .i64 c4, .s .i64 c5, .s .i64 c6], .s .i64 x] [] [.cmp true] [] (.tup [.i .i64 0, .i .i64 0, .i .i64 10]) [] [] =
    some [obB true (x < (0 : Int)), (0 : Int) = (0 : Int), (0 : Int) = (0 : Int), (10 : Int) = (10 : Int)] := by kernel_rfl
theorem line_hi (c0 c1 c2 c3 c4 c5 c6 : Int) (x : Int) : callR P ctP2 100 30 20 [.agg [.s .i64 c0, .s .i64 c1, .s .i64 c2, .s .i64 c3, .s .i64 c4, .s .i64 c5, .s .i64 c6], .s .i64 x] [] [.cmp false, .cmp true] [] (.tup [.i .i64 0, .i .i64 0, .i .i64 10]) [] [] =
    some [obB false (x < (0 : Int)), (zPlace0 c0 c1 c2 c3 c4 c5 c6) = (zPlace0 c0 c1 c2 c3 c4 c5 c6), ([] : List Vse.Tok) = [], okP (c0, c1, c2, c3, c4, c5, c6), IntKind.i64.wrap (c1 * (2 : Int) * (2 : Int)) = c1 * (2 : Int) * (2 : Int), obB true (c1 * (2 : Int) * (2 : Int) ≤ x), (0 : Int) = (0 : Int), (0 : Int) = (0 : Int), (10 : Int) = (10 : Int)] := by kernel_rfl
theorem line_in (c0 c1 c2 c3 c4 c5 c6 : Int) (x : Int) : callR P ctP2 100 30 20 [.agg [.s .i64 c0, .s .i64 c1, .s .i64 c2, .s .i64 c3, .s .i64 c4, .s .i64 c5, .s .i64 c6], .s .i64 x] [] [.cmp false, .cmp false] [] (.tup [.s .i64 (x.tdiv 2), .s .i64 (x.tmod 2), .i .i64 0]) [] [] =
    some [obB false (x < (0 : Int)), (zPlace0 c0 c1 c2 c3 c4 c5 c6) = (zPlace0 c0 c1 c2 c3 c4 c5 c6), ([] : List Vse.Tok) = [], okP (c0, c1, c2, c3, c4, c5, c6), IntKind.i64.wrap (c1 * (2 : Int) * (2 : Int)) = c1 * (2 : Int) * (2 : Int), obB false (c1 * (2 : Int) * (2 : Int) ≤ x), (2 : Int) ≠ (0 : Int), IntKind.i64.wrap (x.tdiv 2) = x.tdiv 2, (2 : Int) ≠ (0 : Int), x.tmod 2 = x.tmod 2, x.tdiv 2 = x.tdiv 2, x.tmod 2 = x.tmod 2, (0 : Int) = (0 : Int)] := by kernel_rfl
theorem gran_lo (c0 c1 c2 c3 c4 c5 c6 : Int) (x : Int) : callR P ctP2 100 30 21 [.agg [.s .i64 c0, .s .i64 c1, .s .i64 c2, .s .i64 c3, .s .i64 c4, .s .i64 c5, .s .i64 c6], .s .i64 x] [] [.cmp false] [] (.tup [.i .i64 0, .i .i64 10]) [] [] =
    some [obB false ((0 : Int) ≤ x), (0 : Int) = (0 : Int), (10 : Int) = (10 : Int)] := by kernel_rfl
theorem gran_hi (c0 c1 c2 c3 c4 c5 c6 : Int) (x : Int) : callR P ctP2 100 30 21 [.agg [.s .i64 c0, .s .i64 c1, .s .i64 c2, .s .i64 c3, .s .i64 c4, .s .i64 c5, .s .i64 c6], .s .i64 x] [] [.cmp true, .cmp false] [] (.tup [.i .i64 0, .i .i64 10]) [] [] =
    some [obB true ((0 : Int) ≤ x), (zPlace0 c0 c1 c2 c3 c4 c5 c6) = (zPlace0 c0 c1 c2 c3 c4 c5 c6), ([] : List Vse.Tok) = [], okP (c0, c1, c2, c3, c4, c5, c6), obB false (x < c1 * (2 : Int)), (0 : Int) = (0 : Int), (10 : Int) = (10 : Int)] := by kernel_rfl
theorem gran_in (c0 c1 c2 c3 c4 c5 c6 : Int) (x : Int) : callR P ctP2 100 30 21 [.agg [.s .i64 c0, .s .i64 c1, .s .i64 c2, .s .i64 c3, .s .i64 c4, .s .i64 c5, .s .i64 c6], .s .i64 x] [] [.cmp true, .cmp true] [] (.tup [.s .i64 (x.tdiv 2), .i .i64 0]) [] [] =
    some [obB true ((0 : Int) ≤ x), (zPlace0 c0 c1 c2 c3 c4 c5 c6) = (zPlace0 c0 c1 c2 c3 c4 c5 c6), ([] : List Vse.Tok) = [], okP (c0, c1, c2, c3, c4, c5, c6), obB true (x < c1 * (2 : Int)), (2 : Int) ≠ (0 : Int), IntKind.i64.wrap (x.tdiv 2) = x.tdiv 2, x.tdiv 2 = x.tdiv 2, (0 : Int) = (0 : Int)] := by kernel_rfl
theorem bank_lo (c0 c1 c2 c3 c4 c5 c6 : Int) (x : Int) : callR P ctP2 100 30 38 [.agg [.s .i64 c0, .s .i64 c1, .s .i64 c2, .s .i64 c3, .s .i64 c4, .s .i64 c5, .s .i64 c6], .s .i64 x] [] [.cmp false] [] (.tup [.i .i64 0, .i .i64 10]) [] [] =
    some [obB false ((0 : Int) ≤ x), (0 : Int) = (0 : Int), (10 : Int) = (10 : Int)] := by kernel_rfl
theorem bank_hi (c0 c1 c2 c3 c4 c5 c6 : Int) (x : Int) : callR P ctP2 100 30 38 [.agg [.s .i64 c0, .s .i64 c1, .s .i64 c2, .s .i64 c3, .s .i64 c4, .s .i64 c5, .s .i64 c6], .s .i64 x] [] [.cmp true, .cmp false] [] (.tup [.i .i64 0, .i .i64 10]) [] [] =
    some [obB true ((0 : Int) ≤ x), (zPlace0 c0 c1 c2 c3 c4 c5 c6) = (zPlace0 c0 c1 c2 c3 c4 c5 c6), ([] : List Vse.Tok) = [], okP (c0, c1, c2, c3, c4, c5, c6), obB false (x < c1 * (2 : Int)), (0 : Int) = (0 : Int), (10 : Int) = (10 : Int)] := by kernel_rfl
theorem bank_in (c0 c1 c2 c3 c4 c5 c6 : Int) (x : Int) : callR P ctP2 100 30 38 [.agg [.s .i64 c0, .s .i64 c1, .s .i64 c2, .s .i64 c3, .s .i64 c4, .s .i64 c5, .s .i64 c6], .s .i64 x] [] [.cmp true, .cmp true] [] (.tup [.s .i64 (x.tmod c6), .i .i64 0]) [] [] =
    some [obB true ((0 : Int) ≤ x), (zPlace0 c0 c1 c2 c3 c4 c5 c6) = (zPlace0 c0 c1 c2 c3 c4 c5 c6), ([] : List Vse.Tok) = [], okP (c0, c1, c2, c3, c4, c5, c6), obB true (x < c1 * (2 : Int)), c6 ≠ (0 : Int), x.tmod c6 = x.tmod c6, x.tmod c6 = x.tmod c6, (0 : Int) = (0 : Int)] := by kernel_rfl
theorem words_trip {c0 c1 c2 c3 c4 c5 c6 : Int} (hc : okI c0 c1 c2 c3 c4 c5 c6) : FTrip P 18 [.agg [.s .i64 c0, .s .i64 c1, .s .i64 c2, .s .i64 c3, .s .i64 c4, .s .i64 c5, .s .i64 c6]] [] (.s .i64 (c1 * 2 * 2)) [] [] := by
  have hc' := hc
  simp only [okI] at hc'
  exact FTrip.callR ctP2_ok (words_run c0 c1 c2 c3 c4 c5 c6) (by (with_reducible repeat' first | exact AllP_nil | refine AllP_cons ?_ ?_ | refine And.intro ?_ ?_) <;> first | rfl | assumption | exact obT (by first | assumption | omega) | exact obF (by first | assumption | omega) | exact wrap_i64 (by omega) | omega)
def wordsS := specT (fun args _ => getCf args) (fun p => [cfL p]) (fun _ => []) (fun p => [okP p]) (fun p => .s .i64 (p.2.1 * 2 * 2)) (fun _ => []) []
theorem wordsS_ok : SpecOK P 18 wordsS := specT_ok (fun p ho => by
  simp only [AllP, and_true] at ho
  exact words_trip ho)
theorem line_trip {c0 c1 c2 c3 c4 c5 c6 : Int} {x : Int} (hc : okI c0 c1 c2 c3 c4 c5 c6) (r : Bool) (hr : obB r (0 ≤ x ∧ x < 4 * c1)) : FTrip P 20 [.agg [.s .i64 c0, .s .i64 c1, .s .i64 c2, .s .i64 c3, .s .i64 c4, .s .i64 c5, .s .i64 c6], .s .i64 x] [] (bif r then .tup [.s .i64 (x.tdiv 2), .s .i64 (x.tmod 2), .i .i64 0] else .tup [.i .i64 0, .i .i64 0, .i .i64 10]) [] [] := by
  have hc' := hc
  simp only [okI] at hc'
  cases r with
  | true =>
    have hr : 0 ≤ x ∧ x < 4 * c1 := hr
    have hd := Int.tdiv_eq_ediv_of_nonneg (a := x) (b := 2) hr.1
    exact FTrip.callR ctP2_ok (line_in c0 c1 c2 c3 c4 c5 c6 x) (by (with_reducible repeat' first | exact AllP_nil | refine AllP_cons ?_ ?_ | refine And.intro ?_ ?_) <;> first | rfl | assumption | exact obT (by first | assumption | omega) | exact obF (by first | assumption | omega) | exact wrap_i64 (by omega) | omega)
  | false =>
    have hr : ¬ (0 ≤ x ∧ x < 4 * c1) := hr
    by_cases h0 : x < 0
    · exact FTrip.callR ctP2_ok (line_lo c0 c1 c2 c3 c4 c5 c6 x) (by (with_reducible repeat' first | exact AllP_nil | refine AllP_cons ?_ ?_ | refine And.intro ?_ ?_) <;> first | rfl | assumption | exact obT (by first | assumption | omega) | exact obF (by first | assumption | omega) | exact wrap_i64 (by omega) | omega)
    · exact FTrip.callR ctP2_ok (line_hi c0 c1 c2 c3 c4 c5 c6 x) (by (with_reducible repeat' first | exact AllP_nil | refine AllP_cons ?_ ?_ | refine And.intro ?_ ?_) <;> first | rfl | assumption | exact obT (by first | assumption | omega) | exact obF (by first | assumption | omega) | exact wrap_i64 (by omega) | omega)
def lineS := specB (fun args _ => getCf2 args) (fun p => [cfL p.1, .s .i64 p.2]) (fun _ => []) (fun p => 0 ≤ p.2 ∧ p.2 < 4 * p.1.2.1) (fun p => [okP p.1]) (fun p r => bif r then .tup [.s .i64 (p.2.tdiv 2), .s .i64 (p.2.tmod 2), .i .i64 0] else .tup [.i .i64 0, .i .i64 0, .i .i64 10]) (fun _ _ => []) []
theorem lineS_ok : SpecOK P 20 lineS := specB_ok (fun p r hr ho => by
  simp only [AllP, and_true] at ho
  exact line_trip ho r hr)
theorem gran_trip {c0 c1 c2 c3 c4 c5 c6 : Int} {x : Int} (hc : okI c0 c1 c2 c3 c4 c5 c6) (r : Bool) (hr : obB r (0 ≤ x ∧ x < 2 * c1)) : FTrip P 21 [.agg [.s .i64 c0, .s .i64 c1, .s .i64 c2, .s .i64 c3, .s .i64 c4, .s .i64 c5, .s .i64 c6], .s .i64 x] [] (bif r then .tup [.s .i64 (x.tdiv 2), .i .i64 0] else .tup [.i .i64 0, .i .i64 10]) [] [] := by
  have hc' := hc
  simp only [okI] at hc'
  cases r with
  | true =>
    have hr : 0 ≤ x ∧ x < 2 * c1 := hr
    have hd := Int.tdiv_eq_ediv_of_nonneg (a := x) (b := 2) hr.1
    exact FTrip.callR ctP2_ok (gran_in c0 c1 c2 c3 c4 c5 c6 x) (by (with_reducible repeat' first | exact AllP_nil | refine AllP_cons ?_ ?_ | refine And.intro ?_ ?_) <;> first | rfl | assumption | exact obT (by first | assumption | omega) | exact obF (by first | assumption | omega) | exact wrap_i64 (by omega) | omega)
  | false =>
    have hr : ¬ (0 ≤ x ∧ x < 2 * c1) := hr
    by_cases h0 : x < 0
    · exact FTrip.callR ctP2_ok (gran_lo c0 c1 c2 c3 c4 c5 c6 x) (by (with_reducible repeat' first | exact AllP_nil | refine AllP_cons ?_ ?_ | refine And.intro ?_ ?_) <;> first | rfl | assumption | exact obT (by first | assumption | omega) | exact obF (by first | assumption | omega) | exact wrap_i64 (by omega) | omega)
    · exact FTrip.callR ctP2_ok (gran_hi c0 c1 c2 c3 c4 c5 c6 x) (by (with_reducible repeat' first | exact AllP_nil | refine AllP_cons ?_ ?_ | refine And.intro ?_ ?_) <;> first | rfl | assumption | exact obT (by first | assumption | omega) | exact obF (by first | assumption | omega) | exact wrap_i64 (by omega) | omega)
def granS := specB (fun args _ => getCf2 args) (fun p => [cfL p.1, .s .i64 p.2]) (fun _ => []) (fun p => 0 ≤ p.2 ∧ p.2 < 2 * p.1.2.1) (fun p => [okP p.1]) (fun p r => bif r then .tup [.s .i64 (p.2.tdiv 2), .i .i64 0] else .tup [.i .i64 0, .i .i64 10]) (fun _ _ => []) []
theorem granS_ok : SpecOK P 21 granS := specB_ok (fun p r hr ho => by
  simp only [AllP, and_true] at ho
  exact gran_trip ho r hr)
theorem bnk_trip {c0 c1 c2 c3 c4 c5 c6 : Int} {x : Int} (hc : okI c0 c1 c2 c3 c4 c5 c6) (r : Bool) (hr : obB r (0 ≤ x ∧ x < 2 * c1)) : FTrip P 38 [.agg [.s .i64 c0, .s .i64 c1, .s .i64 c2, .s .i64 c3, .s .i64 c4, .s .i64 c5, .s .i64 c6], .s .i64 x] [] (bif r then .tup [.s .i64 (x.tmod c6), .i .i64 0] else .tup [.i .i64 0, .i .i64 10]) [] [] := by
  have hc' := hc
  simp only [okI] at hc'
  cases r with
  | true =>
    have hr : 0 ≤ x ∧ x < 2 * c1 := hr
    have hd := Int.tdiv_eq_ediv_of_nonneg (a := x) (b := 2) hr.1
    exact FTrip.callR ctP2_ok (bank_in c0 c1 c2 c3 c4 c5 c6 x) (by (with_reducible repeat' first | exact AllP_nil | refine AllP_cons ?_ ?_ | refine And.intro ?_ ?_) <;> first | rfl | assumption | exact obT (by first | assumption | omega) | exact obF (by first | assumption | omega) | exact wrap_i64 (by omega) | omega)
  | false =>
    have hr : ¬ (0 ≤ x ∧ x < 2 * c1) := hr
    by_cases h0 : x < 0
    · exact FTrip.callR ctP2_ok (bank_lo c0 c1 c2 c3 c4 c5 c6 x) (by (with_reducible repeat' first | exact AllP_nil | refine AllP_cons ?_ ?_ | refine And.intro ?_ ?_) <;> first | rfl | assumption | exact obT (by first | assumption | omega) | exact obF (by first | assumption | omega) | exact wrap_i64 (by omega) | omega)
    · exact FTrip.callR ctP2_ok (bank_hi c0 c1 c2 c3 c4 c5 c6 x) (by (with_reducible repeat' first | exact AllP_nil | refine AllP_cons ?_ ?_ | refine And.intro ?_ ?_) <;> first | rfl | assumption | exact obT (by first | assumption | omega) | exact obF (by first | assumption | omega) | exact wrap_i64 (by omega) | omega)
def bnkS := specB (fun args _ => getCf2 args) (fun p => [cfL p.1, .s .i64 p.2]) (fun _ => []) (fun p => 0 ≤ p.2 ∧ p.2 < 2 * p.1.2.1) (fun p => [okP p.1]) (fun p r => bif r then .tup [.s .i64 (p.2.tmod p.1.2.2.2.2.2.2), .i .i64 0] else .tup [.i .i64 0, .i .i64 10]) (fun _ _ => []) []
theorem bnkS_ok : SpecOK P 38 bnkS := specB_ok (fun p r hr ho => by
  simp only [AllP, and_true] at ho
  exact bnk_trip ho r hr)
def ctP : Ctrs := fun f => if f = 27 then some (.spec checkS) else if f = 14 then some (.spec linesS) else if f = 18 then some (.spec wordsS) else if f = 20 then some (.spec lineS) else if f = 21 then some (.spec granS) else if f = 38 then some (.spec bnkS) else none
theorem ctP_ok : CtOK P ctP := fun f s h => by
  unfold ctP at h
  split at h
  · rename_i e; subst e; cases h; exact checkS_ok
  · skip
    split at h
    · rename_i e; subst e; cases h; exact linesS_ok
    · skip
      split at h
      · rename_i e; subst e; cases h; exact wordsS_ok
      · skip
        split at h
        · rename_i e; subst e; cases h; exact lineS_ok
        · skip
          split at h
          · rename_i e; subst e; cases h; exact granS_ok
          · skip
            split at h
            · rename_i e; subst e; cases h; exact bnkS_ok
            · skip
              cases h
end Go.Proofs.Ytpnfdndjaepbbaa
