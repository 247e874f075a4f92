/- The law 'PlaceBack': what each call of a configuration that may be answers. -/
import Derived.Test.YtinblcmgnjcnlaaBackA
namespace Go.Proofs.Ytinblcmgnjcnlaa
open Go Go.Vse
set_option maxRecDepth 100000
set_option maxHeartbeats 4000000
def ctC : Ctrs := fun f => if f = 16 then some (.spec checkC) else none
theorem ctC_ok : CtOK P ctC := fun f s h => by
  unfold ctC at h
  split at h
  · rename_i e; subst e; cases h; exact checkC_ok
  · skip
    cases h
theorem tdiv2 {x : Int} (h : 0 ≤ x) : x.tdiv 2 = x / 2 ∧ x.tmod 2 = x % 2 := ⟨Int.tdiv_eq_ediv_of_nonneg h, Int.tmod_eq_emod_of_nonneg h⟩
theorem modw {x c : Int} (h : 0 ≤ x) (hc : 1 ≤ c ∧ c ≤ 4) : IntKind.i64.wrap (x.tmod c) = x.tmod c := by
  have h1 : x.tmod c = x % c := Int.tmod_eq_emod_of_nonneg h
  have h2 := Int.emod_nonneg x (by omega : c ≠ 0)
  have h3 := Int.emod_lt_of_pos x (by omega : 0 < c)
  rw [h1]; exact wrap_i64 (by omega)
theorem lines_run (c0 c1 c2 c3 c4 c5 c6 : Int) : callR P ctC 100 30 11 [.agg [.s .i64 c0, .s .i64 c1, .s .i64 c2, .s .i64 c3, .s .i64 c4, .s .i64 c5, .s .i64 c6]] [] [] [] (.s .i64 (c1 * 2)) [] [] =
    some [okI c0 c1 c2 c3 c4 c5 c6, IntKind.i64.wrap (c1 * (2 : Int)) = c1 * (2 : Int), c1 * (2 : Int) = c1 * (2 : Int)] := by kernel_rfl
theorem words_run (c0 c1 c2 c3 c4 c5 c6 : Int) : callR P ctC 100 30 6 [.agg [.s .i64 c0, .s .i64 c1, .s .i64 c2, .s .i64 c3, .s .i64 c4, .s .i64 c5, .s .i64 c6]] [] [] [] (.s .i64 (c1 * 2 * 2)) [] [] =
    some [okI c0 c1 c2 c3 c4 c5 c6, IntKind.i64.wrap (c1 * (2 : Int)) = c1 * (2 : Int), IntKind.i64.wrap (c1 * (2 : Int) * (2 : Int)) = c1 * (2 : Int) * (2 : Int), c1 * (2 : Int) * (2 : Int) = c1 * (2 : Int) * (2 : Int)] := by kernel_rfl
theorem line_run (c0 c1 c2 c3 c4 c5 c6 x : Int) : callR P ctC 100 30 7 [.agg [.s .i64 c0, .s .i64 c1, .s .i64 c2, .s .i64 c3, .s .i64 c4, .s .i64 c5, .s .i64 c6], .s .i64 x] [] [.cmp false, .cmp false] [] (.tup [.s .i64 (x.tdiv 2), .s .i64 (x.tmod 2), .i .i64 0]) [] [] =
    some [obB false (x < (0 : Int)), okI c0 c1 c2 c3 c4 c5 c6, IntKind.i64.wrap (c1 * (2 : Int)) = c1 * (2 : Int), IntKind.i64.wrap (c1 * (2 : Int) * (2 : Int)) = c1 * (2 : Int) * (2 : Int), obB false (c1 * (2 : Int) * (2 : Int) ≤ x), (2 : Int) ≠ (0 : Int), IntKind.i64.wrap (x.tdiv 2) = x.tdiv 2, (2 : Int) ≠ (0 : Int), x.tmod 2 = x.tmod 2, x.tdiv 2 = x.tdiv 2, x.tmod 2 = x.tmod 2, (0 : Int) = (0 : Int)] := by kernel_rfl
theorem word_run (c0 c1 c2 c3 c4 c5 c6 x y : Int) : callR P ctC 100 30 8 [.agg [.s .i64 c0, .s .i64 c1, .s .i64 c2, .s .i64 c3, .s .i64 c4, .s .i64 c5, .s .i64 c6], .s .i64 x, .s .i64 y] [] [.cmp true, .cmp true, .cmp false, .cmp false] [] (.tup [.s .i64 (x * 2 + y), .i .i64 0]) [] [] =
    some [obB true ((0 : Int) ≤ x), okI c0 c1 c2 c3 c4 c5 c6, IntKind.i64.wrap (c1 * (2 : Int)) = c1 * (2 : Int), obB true (x < c1 * (2 : Int)), obB false (y < (0 : Int)), obB false ((2 : Int) ≤ y), IntKind.i64.wrap (x * (2 : Int)) = x * (2 : Int), IntKind.i64.wrap (x * (2 : Int) + y) = x * (2 : Int) + y, x * (2 : Int) + y = x * (2 : Int) + y, (0 : Int) = (0 : Int)] := by kernel_rfl
theorem bank_run (c0 c1 c2 c3 c4 c5 c6 x : Int) : callR P ctC 100 30 10 [.agg [.s .i64 c0, .s .i64 c1, .s .i64 c2, .s .i64 c3, .s .i64 c4, .s .i64 c5, .s .i64 c6], .s .i64 x] [] [.cmp true, .cmp true] [] (.tup [.s .i64 (x.tmod c6), .i .i64 0]) [] [] =
    some [obB true ((0 : Int) ≤ x), okI c0 c1 c2 c3 c4 c5 c6, IntKind.i64.wrap (c1 * (2 : Int)) = c1 * (2 : Int), obB true (x < c1 * (2 : Int)), c6 ≠ (0 : Int), x.tmod c6 = x.tmod c6, x.tmod c6 = x.tmod c6, (0 : Int) = (0 : Int)] := by kernel_rfl
theorem lines_trip (c0 c1 c2 c3 c4 c5 c6 : Int) (hc : okI c0 c1 c2 c3 c4 c5 c6) : FTrip P 11 [.agg [.s .i64 c0, .s .i64 c1, .s .i64 c2, .s .i64 c3, .s .i64 c4, .s .i64 c5, .s .i64 c6]] [] (.s .i64 (c1 * 2)) [] [] := by
  have hc' := hc
  simp only [okI] at hc'
  exact FTrip.callR ctC_ok (lines_run c0 c1 c2 c3 c4 c5 c6) (by (repeat' first | with_reducible exact AllP_nil | with_reducible refine AllP_cons ?_ ?_ | with_reducible refine And.intro ?_ ?_) <;> first | rfl | assumption | (refine obT ⟨?_, ?_⟩ <;> omega) | exact obT (by assumption) | exact obF (by assumption) | exact obT (by omega) | exact obF (by omega) | exact wrap_i64 (by omega) | (omega))
def linesY : List LV → List Vse.Tok → List Ans → FOut := fun args m an =>
  match args, m with
  | [.agg [.s .i64 c0, .s .i64 c1, .s .i64 c2, .s .i64 c3, .s .i64 c4, .s .i64 c5, .i .i64 c6]], [] => some (.s .i64 (c1 * 2), [], [], [okI c0 c1 c2 c3 c4 c5 c6], an)
  | _, _ => none
theorem linesY_ok : SpecOK P 11 linesY := fun args m an v m' wr ob an' h ho => by
  unfold linesY at h
  split at h
  · cases h
    simp only [AllP, and_true] at ho
    exact ((lines_trip _ _ _ _ _ _ _ ho).args (by rfl)).val (by rfl)
  · cases h
def linesC : List LV → List Vse.Tok → List Ans → FOut := fun args m an =>
  match args, m with
  | [.agg [.s .i64 c0, .s .i64 c1, .s .i64 c2, .s .i64 c3, .s .i64 c4, .s .i64 c5, .i .i64 c6]], [] => some (.s .i64 (c1 * 2), [], [], [okI c0 c1 c2 c3 c4 c5 c6], an)
  | _, _ => none
theorem linesC_ok : SpecOK P 11 linesC := fun args m an v m' wr ob an' h ho => by
  unfold linesC at h
  split at h
  · cases h
    simp only [AllP, and_true] at ho
    exact ((lines_trip _ _ _ _ _ _ _ ho).args (by rfl)).val (by rfl)
  · cases h
theorem words_trip (c0 c1 c2 c3 c4 c5 c6 : Int) (hc : okI c0 c1 c2 c3 c4 c5 c6) : FTrip P 6 [.agg [.s .i64 c0, .s .i64 c1, .s .i64 c2, .s .i64 c3, .s .i64 c4, .s .i64 c5, .s .i64 c6]] [] (.s .i64 (c1 * 2 * 2)) [] [] := by
  have hc' := hc
  simp only [okI] at hc'
  exact FTrip.callR ctC_ok (words_run c0 c1 c2 c3 c4 c5 c6) (by (repeat' first | with_reducible exact AllP_nil | with_reducible refine AllP_cons ?_ ?_ | with_reducible refine And.intro ?_ ?_) <;> first | rfl | assumption | (refine obT ⟨?_, ?_⟩ <;> omega) | exact obT (by assumption) | exact obF (by assumption) | exact obT (by omega) | exact obF (by omega) | exact wrap_i64 (by omega) | (omega))
def wordsY : List LV → List Vse.Tok → List Ans → FOut := fun args m an =>
  match args, m with
  | [.agg [.s .i64 c0, .s .i64 c1, .s .i64 c2, .s .i64 c3, .s .i64 c4, .s .i64 c5, .i .i64 c6]], [] => some (.s .i64 (c1 * 2 * 2), [], [], [okI c0 c1 c2 c3 c4 c5 c6], an)
  | _, _ => none
theorem wordsY_ok : SpecOK P 6 wordsY := fun args m an v m' wr ob an' h ho => by
  unfold wordsY at h
  split at h
  · cases h
    simp only [AllP, and_true] at ho
    exact ((words_trip _ _ _ _ _ _ _ ho).args (by rfl)).val (by rfl)
  · cases h
def wordsC : List LV → List Vse.Tok → List Ans → FOut := fun args m an =>
  match args, m with
  | [.agg [.s .i64 c0, .s .i64 c1, .s .i64 c2, .s .i64 c3, .s .i64 c4, .s .i64 c5, .i .i64 c6]], [] => some (.s .i64 (c1 * 2 * 2), [], [], [okI c0 c1 c2 c3 c4 c5 c6], an)
  | _, _ => none
theorem wordsC_ok : SpecOK P 6 wordsC := fun args m an v m' wr ob an' h ho => by
  unfold wordsC at h
  split at h
  · cases h
    simp only [AllP, and_true] at ho
    exact ((words_trip _ _ _ _ _ _ _ ho).args (by rfl)).val (by rfl)
  · cases h
theorem line_trip (c0 c1 c2 c3 c4 c5 c6 x : Int) (hc : okI c0 c1 c2 c3 c4 c5 c6) (hx : 0 ≤ x ∧ x < 4 * c1) : FTrip P 7 [.agg [.s .i64 c0, .s .i64 c1, .s .i64 c2, .s .i64 c3, .s .i64 c4, .s .i64 c5, .s .i64 c6], .s .i64 x] [] (.tup [.s .i64 (x.tdiv 2), .s .i64 (x.tmod 2), .i .i64 0]) [] [] := by
  have hc' := hc
  simp only [okI] at hc'
  exact FTrip.callR ctC_ok (line_run c0 c1 c2 c3 c4 c5 c6 x) (by (repeat' first | with_reducible exact AllP_nil | with_reducible refine AllP_cons ?_ ?_ | with_reducible refine And.intro ?_ ?_) <;> first | rfl | assumption | (refine obT ⟨?_, ?_⟩ <;> omega) | exact wrap_i64 (by have := tdiv2 hx.1; omega) | exact obT (by assumption) | exact obF (by assumption) | exact obT (by omega) | exact obF (by omega) | exact wrap_i64 (by omega) | (omega))
def lineY : List LV → List Vse.Tok → List Ans → FOut := fun args m an =>
  match args, m with
  | [.agg [.s .i64 c0, .s .i64 c1, .s .i64 c2, .s .i64 c3, .s .i64 c4, .s .i64 c5, .i .i64 c6], .s .i64 x], [] => some (.tup [.s .i64 (x.tdiv 2), .s .i64 (x.tmod 2), .i .i64 0], [], [], [okI c0 c1 c2 c3 c4 c5 c6, 0 ≤ x ∧ x < 4 * c1], an)
  | _, _ => none
theorem lineY_ok : SpecOK P 7 lineY := fun args m an v m' wr ob an' h ho => by
  unfold lineY at h
  split at h
  · cases h
    simp only [AllP, and_true] at ho
    exact ((line_trip _ _ _ _ _ _ _ _ ho.1 ho.2).args (by rfl)).val (by rfl)
  · cases h
def lineC : List LV → List Vse.Tok → List Ans → FOut := fun args m an =>
  match args, m with
  | [.agg [.s .i64 c0, .s .i64 c1, .s .i64 c2, .s .i64 c3, .s .i64 c4, .s .i64 c5, .i .i64 c6], .i .i64 x], [] => some (.tup [.i .i64 (x.tdiv 2), .i .i64 (x.tmod 2), .i .i64 0], [], [], [okI c0 c1 c2 c3 c4 c5 c6, 0 ≤ x ∧ x < 4 * c1], an)
  | _, _ => none
theorem lineC_ok : SpecOK P 7 lineC := fun args m an v m' wr ob an' h ho => by
  unfold lineC at h
  split at h
  · cases h
    simp only [AllP, and_true] at ho
    exact ((line_trip _ _ _ _ _ _ _ _ ho.1 ho.2).args (by rfl)).val (by rfl)
  · cases h
theorem word_trip (c0 c1 c2 c3 c4 c5 c6 x y : Int) (hc : okI c0 c1 c2 c3 c4 c5 c6) (hx : (0 ≤ x ∧ x < 2 * c1) ∧ (0 ≤ y ∧ y < 2)) : FTrip P 8 [.agg [.s .i64 c0, .s .i64 c1, .s .i64 c2, .s .i64 c3, .s .i64 c4, .s .i64 c5, .s .i64 c6], .s .i64 x, .s .i64 y] [] (.tup [.s .i64 (x * 2 + y), .i .i64 0]) [] [] := by
  have hc' := hc
  simp only [okI] at hc'
  exact FTrip.callR ctC_ok (word_run c0 c1 c2 c3 c4 c5 c6 x y) (by (repeat' first | with_reducible exact AllP_nil | with_reducible refine AllP_cons ?_ ?_ | with_reducible refine And.intro ?_ ?_) <;> first | rfl | assumption | (refine obT ⟨?_, ?_⟩ <;> omega) | exact obT (by assumption) | exact obF (by assumption) | exact obT (by omega) | exact obF (by omega) | exact wrap_i64 (by omega) | (omega))
def wordY : List LV → List Vse.Tok → List Ans → FOut := fun args m an =>
  match args, m with
  | [.agg [.s .i64 c0, .s .i64 c1, .s .i64 c2, .s .i64 c3, .s .i64 c4, .s .i64 c5, .i .i64 c6], .s .i64 x, .s .i64 y], [] => some (.tup [.s .i64 (x * 2 + y), .i .i64 0], [], [], [okI c0 c1 c2 c3 c4 c5 c6, (0 ≤ x ∧ x < 2 * c1) ∧ (0 ≤ y ∧ y < 2)], an)
  | _, _ => none
theorem wordY_ok : SpecOK P 8 wordY := fun args m an v m' wr ob an' h ho => by
  unfold wordY at h
  split at h
  · cases h
    simp only [AllP, and_true] at ho
    exact ((word_trip _ _ _ _ _ _ _ _ _ ho.1 ho.2).args (by rfl)).val (by rfl)
  · cases h
def wordC : List LV → List Vse.Tok → List Ans → FOut := fun args m an =>
  match args, m with
  | [.agg [.s .i64 c0, .s .i64 c1, .s .i64 c2, .s .i64 c3, .s .i64 c4, .s .i64 c5, .i .i64 c6], .i .i64 x, .i .i64 y], [] => some (.tup [.i .i64 (x * 2 + y), .i .i64 0], [], [], [okI c0 c1 c2 c3 c4 c5 c6, (0 ≤ x ∧ x < 2 * c1) ∧ (0 ≤ y ∧ y < 2)], an)
  | _, _ => none
theorem wordC_ok : SpecOK P 8 wordC := fun args m an v m' wr ob an' h ho => by
  unfold wordC at h
  split at h
  · cases h
    simp only [AllP, and_true] at ho
    exact ((word_trip _ _ _ _ _ _ _ _ _ ho.1 ho.2).args (by rfl)).val (by rfl)
  · cases h
theorem bank_trip (c0 c1 c2 c3 c4 c5 c6 x : Int) (hc : okI c0 c1 c2 c3 c4 c5 c6) (hx : 0 ≤ x ∧ x < 2 * c1) : FTrip P 10 [.agg [.s .i64 c0, .s .i64 c1, .s .i64 c2, .s .i64 c3, .s .i64 c4, .s .i64 c5, .s .i64 c6], .s .i64 x] [] (.tup [.s .i64 (x.tmod c6), .i .i64 0]) [] [] := by
  have hc' := hc
  simp only [okI] at hc'
  exact FTrip.callR ctC_ok (bank_run c0 c1 c2 c3 c4 c5 c6 x) (by (repeat' first | with_reducible exact AllP_nil | with_reducible refine AllP_cons ?_ ?_ | with_reducible refine And.intro ?_ ?_) <;> first | rfl | assumption | (refine obT ⟨?_, ?_⟩ <;> omega) | exact modw hx.1 hc'.2.2.2.2.2.2 | (exact wrap_i64 (by constructor <;> omega)) | exact obT (by assumption) | exact obF (by assumption) | exact obT (by omega) | exact obF (by omega) | exact wrap_i64 (by omega) | (omega))
def bankY : List LV → List Vse.Tok → List Ans → FOut := fun args m an =>
  match args, m with
  | [.agg [.s .i64 c0, .s .i64 c1, .s .i64 c2, .s .i64 c3, .s .i64 c4, .s .i64 c5, .i .i64 c6], .s .i64 x], [] => some (.tup [.s .i64 (x.tmod c6), .i .i64 0], [], [], [okI c0 c1 c2 c3 c4 c5 c6, 0 ≤ x ∧ x < 2 * c1], an)
  | _, _ => none
theorem bankY_ok : SpecOK P 10 bankY := fun args m an v m' wr ob an' h ho => by
  unfold bankY at h
  split at h
  · cases h
    simp only [AllP, and_true] at ho
    exact ((bank_trip _ _ _ _ _ _ _ _ ho.1 ho.2).args (by rfl)).val (by rfl)
  · cases h
def bankC : List LV → List Vse.Tok → List Ans → FOut := fun args m an =>
  match args, m with
  | [.agg [.s .i64 c0, .s .i64 c1, .s .i64 c2, .s .i64 c3, .s .i64 c4, .s .i64 c5, .i .i64 c6], .i .i64 x], [] => some (.tup [.i .i64 (x.tmod c6), .i .i64 0], [], [], [okI c0 c1 c2 c3 c4 c5 c6, 0 ≤ x ∧ x < 2 * c1], an)
  | _, _ => none
theorem bankC_ok : SpecOK P 10 bankC := fun args m an v m' wr ob an' h ho => by
  unfold bankC at h
  split at h
  · cases h
    simp only [AllP, and_true] at ho
    exact ((bank_trip _ _ _ _ _ _ _ _ ho.1 ho.2).args (by rfl)).val (by rfl)
  · cases h
def ctK : Ctrs := fun f => if f = 4 then some (.spec mayS) else if f = 11 then some (.spec linesC) else if f = 6 then some (.spec wordsC) else if f = 7 then some (.spec lineC) else if f = 8 then some (.spec wordC) else if f = 10 then some (.spec bankC) else if f = 5 then some .dark else none
theorem ctK_ok : CtOK P ctK := fun f s h => by
  unfold ctK at h
  split at h
  · rename_i e; subst e; cases h; exact mayS_ok
  · skip
    split at h
    · rename_i e; subst e; cases h; exact linesC_ok
    · skip
      split at h
      · rename_i e; subst e; cases h; exact wordsC_ok
      · skip
        split at h
        · rename_i e; subst e; cases h; exact lineC_ok
        · skip
          split at h
          · rename_i e; subst e; cases h; exact wordC_ok
          · skip
            split at h
            · rename_i e; subst e; cases h; exact bankC_ok
            · skip
              split at h
              · cases h
              · skip
                cases h
def ctY : Ctrs := fun f => if f = 6 then some (.spec wordsY) else if f = 7 then some (.spec lineY) else if f = 8 then some (.spec wordY) else none
theorem ctY_ok : CtOK P ctY := fun f s h => by
  unfold ctY at h
  split at h
  · rename_i e; subst e; cases h; exact wordsY_ok
  · skip
    split at h
    · rename_i e; subst e; cases h; exact lineY_ok
    · skip
      split at h
      · rename_i e; subst e; cases h; exact wordY_ok
      · skip
        cases h
end Go.Proofs.Ytinblcmgnjcnlaa
