/- What the program finds: lines and places of words, words of them, granules and banks of lines. -/
import Derived.Test.YtjjfnpidgochnaaFindsA
namespace Go.Proofs.Ytjjfnpidgochnaa
open Go Go.Vse
set_option maxRecDepth 100000
theorem line_run0 (c0 c1 c2 c3 c4 c5 c6 word : Int) : callR P ct 100 30 12 [cfg c0 c1 c2 c3 c4 c5 c6, .s .i64 word] [] [.cmp true] [] (.tup [.i .i64 0, .i .i64 0, .i .i64 10]) [] [] =
    some [obB true (word < (0 : Int)), (0 : Int) = (0 : Int), (0 : Int) = (0 : Int), (10 : Int) = (10 : Int)] := by kernel_rfl
theorem line_run1 (c0 c1 c2 c3 c4 c5 c6 word : Int) : callR P ct 100 30 12 [cfg c0 c1 c2 c3 c4 c5 c6, .s .i64 word] [] [.cmp false, .cmp true, .cmp true] [] (.tup [.i .i64 0, .i .i64 0, .i .i64 10]) [] [] =
    some [obB false (word < (0 : Int)), obB true (mayC c0 c1 c2 c3 c4 c5 c6), IntKind.i64.wrap (c1 * (2 : Int)) = c1 * (2 : Int), IntKind.i64.wrap (c1 * (2 : Int) * (2 : Int)) = c1 * (2 : Int) * (2 : Int), obB true (c1 * (2 : Int) * (2 : Int) ≤ word), (0 : Int) = (0 : Int), (0 : Int) = (0 : Int), (10 : Int) = (10 : Int)] := by kernel_rfl
theorem line_run2 (c0 c1 c2 c3 c4 c5 c6 word : Int) : callR P ct 100 30 12 [cfg c0 c1 c2 c3 c4 c5 c6, .s .i64 word] [] [.cmp false, .cmp false, .cmp true] [] (.tup [.i .i64 0, .i .i64 0, .i .i64 10]) [] [] =
    some [obB false (word < (0 : Int)), obB false (mayC c0 c1 c2 c3 c4 c5 c6), obB true ((0 : Int) ≤ word), (0 : Int) = (0 : Int), (0 : Int) = (0 : Int), (10 : Int) = (10 : Int)] := by kernel_rfl
theorem line_run3 (c0 c1 c2 c3 c4 c5 c6 word : Int) : callR P ct 100 30 12 [cfg c0 c1 c2 c3 c4 c5 c6, .s .i64 word] [] [.cmp false, .cmp true, .cmp false] [] (.tup [.s .i64 (word.tdiv 2), .s .i64 (word.tmod 2), .i .i64 0]) [] [] =
    some [obB false (word < (0 : Int)), obB true (mayC c0 c1 c2 c3 c4 c5 c6), IntKind.i64.wrap (c1 * (2 : Int)) = c1 * (2 : Int), IntKind.i64.wrap (c1 * (2 : Int) * (2 : Int)) = c1 * (2 : Int) * (2 : Int), obB false (c1 * (2 : Int) * (2 : Int) ≤ word), (2 : Int) ≠ (0 : Int), IntKind.i64.wrap (word.tdiv 2) = word.tdiv 2, (2 : Int) ≠ (0 : Int), word.tmod 2 = word.tmod 2, word.tdiv 2 = word.tdiv 2, word.tmod 2 = word.tmod 2, (0 : Int) = (0 : Int)] := by kernel_rfl
theorem line_trip (c0 c1 c2 c3 c4 c5 c6 word : Int) : ((mayC c0 c1 c2 c3 c4 c5 c6 ∧ 0 ≤ word ∧ word < 4 * c1) → FTrip P 12 [cfg c0 c1 c2 c3 c4 c5 c6, .s .i64 word] [] (.tup [.s .i64 (word.tdiv 2), .s .i64 (word.tmod 2), .i .i64 0]) [] []) ∧ (¬ (mayC c0 c1 c2 c3 c4 c5 c6 ∧ 0 ≤ word ∧ word < 4 * c1) → FTrip P 12 [cfg c0 c1 c2 c3 c4 c5 c6, .s .i64 word] [] (.tup [.i .i64 0, .i .i64 0, .i .i64 10]) [] []) := by
  by_cases h0 : word < (0 : Int)
  · try have e1 : word.tdiv 2 = word / 2 := Int.tdiv_eq_ediv_of_nonneg (by omega)
    try have e2 : word.tmod 2 = word % 2 := Int.tmod_eq_emod_of_nonneg (by omega)
    try have e3 : line.tdiv 2 = line / 2 := Int.tdiv_eq_ediv_of_nonneg (by omega)
    exact ⟨fun hc => absurd hc (by simp only [mayC] at *; omega), fun hc => FTrip.callR ct_ok (line_run0 c0 c1 c2 c3 c4 c5 c6 word) (by (repeat' first | exact trivial | refine And.intro ?_ ?_) <;> first | exact obT (by assumption) | exact obF (by assumption) | rfl | exact obT (by simp only [mayC] at *; omega) | exact obF (by simp only [mayC] at *; omega) | exact wrap_i64 (by simp only [mayC] at *; omega) | (simp only [mayC] at *; omega))⟩
  · by_cases h1 : mayC c0 c1 c2 c3 c4 c5 c6
    · by_cases h2 : c1 * (2 : Int) * (2 : Int) ≤ word
      · try have e1 : word.tdiv 2 = word / 2 := Int.tdiv_eq_ediv_of_nonneg (by omega)
        try have e2 : word.tmod 2 = word % 2 := Int.tmod_eq_emod_of_nonneg (by omega)
        try have e3 : line.tdiv 2 = line / 2 := Int.tdiv_eq_ediv_of_nonneg (by omega)
        exact ⟨fun hc => absurd hc (by simp only [mayC] at *; omega), fun hc => FTrip.callR ct_ok (line_run1 c0 c1 c2 c3 c4 c5 c6 word) (by (repeat' first | exact trivial | refine And.intro ?_ ?_) <;> first | exact obT (by assumption) | exact obF (by assumption) | rfl | exact obT (by simp only [mayC] at *; omega) | exact obF (by simp only [mayC] at *; omega) | exact wrap_i64 (by simp only [mayC] at *; omega) | (simp only [mayC] at *; omega))⟩
      · try have e1 : word.tdiv 2 = word / 2 := Int.tdiv_eq_ediv_of_nonneg (by omega)
        try have e2 : word.tmod 2 = word % 2 := Int.tmod_eq_emod_of_nonneg (by omega)
        try have e3 : line.tdiv 2 = line / 2 := Int.tdiv_eq_ediv_of_nonneg (by omega)
        exact ⟨fun hc => FTrip.callR ct_ok (line_run3 c0 c1 c2 c3 c4 c5 c6 word) (by (repeat' first | exact trivial | refine And.intro ?_ ?_) <;> first | exact obT (by assumption) | exact obF (by assumption) | rfl | exact obT (by simp only [mayC] at *; omega) | exact obF (by simp only [mayC] at *; omega) | exact wrap_i64 (by simp only [mayC] at *; omega) | (simp only [mayC] at *; omega)), fun hc => absurd (by simp only [mayC] at *; omega) hc⟩
    · by_cases h2 : (0 : Int) ≤ word
      · try have e1 : word.tdiv 2 = word / 2 := Int.tdiv_eq_ediv_of_nonneg (by omega)
        try have e2 : word.tmod 2 = word % 2 := Int.tmod_eq_emod_of_nonneg (by omega)
        try have e3 : line.tdiv 2 = line / 2 := Int.tdiv_eq_ediv_of_nonneg (by omega)
        exact ⟨fun hc => absurd hc (by simp only [mayC] at *; omega), fun hc => FTrip.callR ct_ok (line_run2 c0 c1 c2 c3 c4 c5 c6 word) (by (repeat' first | exact trivial | refine And.intro ?_ ?_) <;> first | exact obT (by assumption) | exact obF (by assumption) | rfl | exact obT (by simp only [mayC] at *; omega) | exact obF (by simp only [mayC] at *; omega) | exact wrap_i64 (by simp only [mayC] at *; omega) | (simp only [mayC] at *; omega))⟩
      · exfalso; simp only [mayC] at *; omega
def lineS : List LV → List Vse.Tok → List Ans → FOut := fun args m an =>
  match symLs args, m with
  | [.agg [.s .i64 c0, .s .i64 c1, .s .i64 c2, .s .i64 c3, .s .i64 c4, .s .i64 c5, .s .i64 c6], .s .i64 word], [] =>
    (match askB (mayC c0 c1 c2 c3 c4 c5 c6 ∧ 0 ≤ word ∧ word < 4 * c1) an with | some (r, ob, an) => some (bif r then .tup [.s .i64 (word.tdiv 2), .s .i64 (word.tmod 2), .i .i64 0] else .tup [.i .i64 0, .i .i64 0, .i .i64 10], [], [], ob, an) | none => none)
  | _, _ => none
theorem lineS_ok : SpecOK P 12 lineS := fun args m an v m' wr ob an' h ho => by
  unfold lineS at h
  split at h
  · rename_i c0 c1 c2 c3 c4 c5 c6 word he
    split at h
    · rename_i r ob an1 hask
      cases h
      skip
      have hr := askB_sound hask ho
      cases r with
      | true => exact ((line_trip c0 c1 c2 c3 c4 c5 c6 word).1 (hr.1 rfl)).args (by rw [he]; rfl)
      | false => exact ((line_trip c0 c1 c2 c3 c4 c5 c6 word).2 (fun h => by have := hr.2 h; cases this)).args (by rw [he]; rfl)
    · cases h
  · cases h
theorem word_run0 (c0 c1 c2 c3 c4 c5 c6 line a : Int) : callR P ct 100 30 13 [cfg c0 c1 c2 c3 c4 c5 c6, .s .i64 line, .s .i64 a] [] [.cmp true, .cmp true, .cmp true, .cmp true] [] (.tup [.i .i64 0, .i .i64 10]) [] [] =
    some [obB true ((0 : Int) ≤ line), obB true (mayC c0 c1 c2 c3 c4 c5 c6), IntKind.i64.wrap (c1 * (2 : Int)) = c1 * (2 : Int), obB true (line < c1 * (2 : Int)), obB true (a < (0 : Int)), (0 : Int) = (0 : Int), (10 : Int) = (10 : Int)] := by kernel_rfl
theorem word_run1 (c0 c1 c2 c3 c4 c5 c6 line a : Int) : callR P ct 100 30 13 [cfg c0 c1 c2 c3 c4 c5 c6, .s .i64 line, .s .i64 a] [] [.cmp false] [] (.tup [.i .i64 0, .i .i64 10]) [] [] =
    some [obB false ((0 : Int) ≤ line), (0 : Int) = (0 : Int), (10 : Int) = (10 : Int)] := by kernel_rfl
theorem word_run2 (c0 c1 c2 c3 c4 c5 c6 line a : Int) : callR P ct 100 30 13 [cfg c0 c1 c2 c3 c4 c5 c6, .s .i64 line, .s .i64 a] [] [.cmp true, .cmp false, .cmp true, .cmp true] [] (.tup [.i .i64 0, .i .i64 10]) [] [] =
    some [obB true ((0 : Int) ≤ line), obB false (mayC c0 c1 c2 c3 c4 c5 c6), obB true (line < (0 : Int)), obB true (a < (0 : Int)), (0 : Int) = (0 : Int), (10 : Int) = (10 : Int)] := by kernel_rfl
theorem word_run3 (c0 c1 c2 c3 c4 c5 c6 line a : Int) : callR P ct 100 30 13 [cfg c0 c1 c2 c3 c4 c5 c6, .s .i64 line, .s .i64 a] [] [.cmp true, .cmp false, .cmp false] [] (.tup [.i .i64 0, .i .i64 10]) [] [] =
    some [obB true ((0 : Int) ≤ line), obB false (mayC c0 c1 c2 c3 c4 c5 c6), obB false (line < (0 : Int)), (0 : Int) = (0 : Int), (10 : Int) = (10 : Int)] := by kernel_rfl
theorem word_run4 (c0 c1 c2 c3 c4 c5 c6 line a : Int) : callR P ct 100 30 13 [cfg c0 c1 c2 c3 c4 c5 c6, .s .i64 line, .s .i64 a] [] [.cmp true, .cmp true, .cmp false] [] (.tup [.i .i64 0, .i .i64 10]) [] [] =
    some [obB true ((0 : Int) ≤ line), obB true (mayC c0 c1 c2 c3 c4 c5 c6), IntKind.i64.wrap (c1 * (2 : Int)) = c1 * (2 : Int), obB false (line < c1 * (2 : Int)), (0 : Int) = (0 : Int), (10 : Int) = (10 : Int)] := by kernel_rfl
theorem word_run5 (c0 c1 c2 c3 c4 c5 c6 line a : Int) : callR P ct 100 30 13 [cfg c0 c1 c2 c3 c4 c5 c6, .s .i64 line, .s .i64 a] [] [.cmp true, .cmp true, .cmp true, .cmp false, .cmp true] [] (.tup [.i .i64 0, .i .i64 10]) [] [] =
    some [obB true ((0 : Int) ≤ line), obB true (mayC c0 c1 c2 c3 c4 c5 c6), IntKind.i64.wrap (c1 * (2 : Int)) = c1 * (2 : Int), obB true (line < c1 * (2 : Int)), obB false (a < (0 : Int)), obB true ((2 : Int) ≤ a), (0 : Int) = (0 : Int), (10 : Int) = (10 : Int)] := by kernel_rfl
theorem word_run6 (c0 c1 c2 c3 c4 c5 c6 line a : Int) : callR P ct 100 30 13 [cfg c0 c1 c2 c3 c4 c5 c6, .s .i64 line, .s .i64 a] [] [.cmp true, .cmp true, .cmp true, .cmp false, .cmp false] [] (.tup [.s .i64 (line * 2 + a), .i .i64 0]) [] [] =
    some [obB true ((0 : Int) ≤ line), obB true (mayC c0 c1 c2 c3 c4 c5 c6), IntKind.i64.wrap (c1 * (2 : Int)) = c1 * (2 : Int), obB true (line < c1 * (2 : Int)), obB false (a < (0 : Int)), obB false ((2 : Int) ≤ a), IntKind.i64.wrap (line * (2 : Int)) = line * (2 : Int), IntKind.i64.wrap (line * (2 : Int) + a) = line * (2 : Int) + a, line * (2 : Int) + a = line * (2 : Int) + a, (0 : Int) = (0 : Int)] := by kernel_rfl
theorem word_trip (c0 c1 c2 c3 c4 c5 c6 line a : Int) : ((mayC c0 c1 c2 c3 c4 c5 c6 ∧ 0 ≤ line ∧ line < 2 * c1 ∧ 0 ≤ a ∧ a < 2) → FTrip P 13 [cfg c0 c1 c2 c3 c4 c5 c6, .s .i64 line, .s .i64 a] [] (.tup [.s .i64 (line * 2 + a), .i .i64 0]) [] []) ∧ (¬ (mayC c0 c1 c2 c3 c4 c5 c6 ∧ 0 ≤ line ∧ line < 2 * c1 ∧ 0 ≤ a ∧ a < 2) → FTrip P 13 [cfg c0 c1 c2 c3 c4 c5 c6, .s .i64 line, .s .i64 a] [] (.tup [.i .i64 0, .i .i64 10]) [] []) := by
  by_cases h0 : (0 : Int) ≤ line
  · by_cases h1 : mayC c0 c1 c2 c3 c4 c5 c6
    · by_cases h2 : line < c1 * (2 : Int)
      · by_cases h3 : a < (0 : Int)
        · try have e1 : word.tdiv 2 = word / 2 := Int.tdiv_eq_ediv_of_nonneg (by omega)
          try have e2 : word.tmod 2 = word % 2 := Int.tmod_eq_emod_of_nonneg (by omega)
          try have e3 : line.tdiv 2 = line / 2 := Int.tdiv_eq_ediv_of_nonneg (by omega)
          exact ⟨fun hc => absurd hc (by simp only [mayC] at *; omega), fun hc => FTrip.callR ct_ok (word_run0 c0 c1 c2 c3 c4 c5 c6 line a) (by (repeat' first | exact trivial | refine And.intro ?_ ?_) <;> first | exact obT (by assumption) | exact obF (by assumption) | rfl | exact obT (by simp only [mayC] at *; omega) | exact obF (by simp only [mayC] at *; omega) | exact wrap_i64 (by simp only [mayC] at *; omega) | (simp only [mayC] at *; omega))⟩
        · by_cases h4 : (2 : Int) ≤ a
          · try have e1 : word.tdiv 2 = word / 2 := Int.tdiv_eq_ediv_of_nonneg (by omega)
            try have e2 : word.tmod 2 = word % 2 := Int.tmod_eq_emod_of_nonneg (by omega)
            try have e3 : line.tdiv 2 = line / 2 := Int.tdiv_eq_ediv_of_nonneg (by omega)
            exact ⟨fun hc => absurd hc (by simp only [mayC] at *; omega), fun hc => FTrip.callR ct_ok (word_run5 c0 c1 c2 c3 c4 c5 c6 line a) (by (repeat' first | exact trivial | refine And.intro ?_ ?_) <;> first | exact obT (by assumption) | exact obF (by assumption) | rfl | exact obT (by simp only [mayC] at *; omega) | exact obF (by simp only [mayC] at *; omega) | exact wrap_i64 (by simp only [mayC] at *; omega) | (simp only [mayC] at *; omega))⟩
          · try have e1 : word.tdiv 2 = word / 2 := Int.tdiv_eq_ediv_of_nonneg (by omega)
            try have e2 : word.tmod 2 = word % 2 := Int.tmod_eq_emod_of_nonneg (by omega)
            try have e3 : line.tdiv 2 = line / 2 := Int.tdiv_eq_ediv_of_nonneg (by omega)
            exact ⟨fun hc => FTrip.callR ct_ok (word_run6 c0 c1 c2 c3 c4 c5 c6 line a) (by (repeat' first | exact trivial | refine And.intro ?_ ?_) <;> first | exact obT (by assumption) | exact obF (by assumption) | rfl | exact obT (by simp only [mayC] at *; omega) | exact obF (by simp only [mayC] at *; omega) | exact wrap_i64 (by simp only [mayC] at *; omega) | (simp only [mayC] at *; omega)), fun hc => absurd (by simp only [mayC] at *; omega) hc⟩
      · try have e1 : word.tdiv 2 = word / 2 := Int.tdiv_eq_ediv_of_nonneg (by omega)
        try have e2 : word.tmod 2 = word % 2 := Int.tmod_eq_emod_of_nonneg (by omega)
        try have e3 : line.tdiv 2 = line / 2 := Int.tdiv_eq_ediv_of_nonneg (by omega)
        exact ⟨fun hc => absurd hc (by simp only [mayC] at *; omega), fun hc => FTrip.callR ct_ok (word_run4 c0 c1 c2 c3 c4 c5 c6 line a) (by (repeat' first | exact trivial | refine And.intro ?_ ?_) <;> first | exact obT (by assumption) | exact obF (by assumption) | rfl | exact obT (by simp only [mayC] at *; omega) | exact obF (by simp only [mayC] at *; omega) | exact wrap_i64 (by simp only [mayC] at *; omega) | (simp only [mayC] at *; omega))⟩
    · by_cases h2 : line < (0 : Int)
      · by_cases h3 : a < (0 : Int)
        · try have e1 : word.tdiv 2 = word / 2 := Int.tdiv_eq_ediv_of_nonneg (by omega)
          try have e2 : word.tmod 2 = word % 2 := Int.tmod_eq_emod_of_nonneg (by omega)
          try have e3 : line.tdiv 2 = line / 2 := Int.tdiv_eq_ediv_of_nonneg (by omega)
          exact ⟨fun hc => absurd hc (by simp only [mayC] at *; omega), fun hc => FTrip.callR ct_ok (word_run2 c0 c1 c2 c3 c4 c5 c6 line a) (by (repeat' first | exact trivial | refine And.intro ?_ ?_) <;> first | exact obT (by assumption) | exact obF (by assumption) | rfl | exact obT (by simp only [mayC] at *; omega) | exact obF (by simp only [mayC] at *; omega) | exact wrap_i64 (by simp only [mayC] at *; omega) | (simp only [mayC] at *; omega))⟩
        · exfalso; simp only [mayC] at *; omega
      · try have e1 : word.tdiv 2 = word / 2 := Int.tdiv_eq_ediv_of_nonneg (by omega)
        try have e2 : word.tmod 2 = word % 2 := Int.tmod_eq_emod_of_nonneg (by omega)
        try have e3 : line.tdiv 2 = line / 2 := Int.tdiv_eq_ediv_of_nonneg (by omega)
        exact ⟨fun hc => absurd hc (by simp only [mayC] at *; omega), fun hc => FTrip.callR ct_ok (word_run3 c0 c1 c2 c3 c4 c5 c6 line a) (by (repeat' first | exact trivial | refine And.intro ?_ ?_) <;> first | exact obT (by assumption) | exact obF (by assumption) | rfl | exact obT (by simp only [mayC] at *; omega) | exact obF (by simp only [mayC] at *; omega) | exact wrap_i64 (by simp only [mayC] at *; omega) | (simp only [mayC] at *; omega))⟩
  · try have e1 : word.tdiv 2 = word / 2 := Int.tdiv_eq_ediv_of_nonneg (by omega)
    try have e2 : word.tmod 2 = word % 2 := Int.tmod_eq_emod_of_nonneg (by omega)
    try have e3 : line.tdiv 2 = line / 2 := Int.tdiv_eq_ediv_of_nonneg (by omega)
    exact ⟨fun hc => absurd hc (by simp only [mayC] at *; omega), fun hc => FTrip.callR ct_ok (word_run1 c0 c1 c2 c3 c4 c5 c6 line a) (by (repeat' first | exact trivial | refine And.intro ?_ ?_) <;> first | exact obT (by assumption) | exact obF (by assumption) | rfl | exact obT (by simp only [mayC] at *; omega) | exact obF (by simp only [mayC] at *; omega) | exact wrap_i64 (by simp only [mayC] at *; omega) | (simp only [mayC] at *; omega))⟩
def wordS : List LV → List Vse.Tok → List Ans → FOut := fun args m an =>
  match symLs args, m with
  | [.agg [.s .i64 c0, .s .i64 c1, .s .i64 c2, .s .i64 c3, .s .i64 c4, .s .i64 c5, .s .i64 c6], .s .i64 line, .s .i64 a], [] =>
    (match askB (mayC c0 c1 c2 c3 c4 c5 c6 ∧ 0 ≤ line ∧ line < 2 * c1 ∧ 0 ≤ a ∧ a < 2) an with | some (r, ob, an) => some (bif r then .tup [.s .i64 (line * 2 + a), .i .i64 0] else .tup [.i .i64 0, .i .i64 10], [], [], ob, an) | none => none)
  | _, _ => none
theorem wordS_ok : SpecOK P 13 wordS := fun args m an v m' wr ob an' h ho => by
  unfold wordS at h
  split at h
  · rename_i c0 c1 c2 c3 c4 c5 c6 line a he
    split at h
    · rename_i r ob an1 hask
      cases h
      skip
      have hr := askB_sound hask ho
      cases r with
      | true => exact ((word_trip c0 c1 c2 c3 c4 c5 c6 line a).1 (hr.1 rfl)).args (by rw [he]; rfl)
      | false => exact ((word_trip c0 c1 c2 c3 c4 c5 c6 line a).2 (fun h => by have := hr.2 h; cases this)).args (by rw [he]; rfl)
    · cases h
  · cases h
theorem gran_run0 (c0 c1 c2 c3 c4 c5 c6 line : Int) : callR P ct 100 30 14 [cfg c0 c1 c2 c3 c4 c5 c6, .s .i64 line] [] [.cmp true, .cmp true, .cmp true] [] (.tup [.s .i64 (line.tdiv 2), .i .i64 0]) [] [] =
    some [obB true ((0 : Int) ≤ line), obB true (mayC c0 c1 c2 c3 c4 c5 c6), IntKind.i64.wrap (c1 * (2 : Int)) = c1 * (2 : Int), obB true (line < c1 * (2 : Int)), (2 : Int) ≠ (0 : Int), IntKind.i64.wrap (line.tdiv 2) = line.tdiv 2, line.tdiv 2 = line.tdiv 2, (0 : Int) = (0 : Int)] := by kernel_rfl
theorem gran_run1 (c0 c1 c2 c3 c4 c5 c6 line : Int) : callR P ct 100 30 14 [cfg c0 c1 c2 c3 c4 c5 c6, .s .i64 line] [] [.cmp false] [] (.tup [.i .i64 0, .i .i64 10]) [] [] =
    some [obB false ((0 : Int) ≤ line), (0 : Int) = (0 : Int), (10 : Int) = (10 : Int)] := by kernel_rfl
theorem gran_run2 (c0 c1 c2 c3 c4 c5 c6 line : Int) : callR P ct 100 30 14 [cfg c0 c1 c2 c3 c4 c5 c6, .s .i64 line] [] [.cmp true, .cmp false, .cmp true] [] (.tup [.s .i64 (line.tdiv 2), .i .i64 0]) [] [] =
    some [obB true ((0 : Int) ≤ line), obB false (mayC c0 c1 c2 c3 c4 c5 c6), obB true (line < (0 : Int)), (2 : Int) ≠ (0 : Int), IntKind.i64.wrap (line.tdiv 2) = line.tdiv 2, line.tdiv 2 = line.tdiv 2, (0 : Int) = (0 : Int)] := by kernel_rfl
theorem gran_run3 (c0 c1 c2 c3 c4 c5 c6 line : Int) : callR P ct 100 30 14 [cfg c0 c1 c2 c3 c4 c5 c6, .s .i64 line] [] [.cmp true, .cmp false, .cmp false] [] (.tup [.i .i64 0, .i .i64 10]) [] [] =
    some [obB true ((0 : Int) ≤ line), obB false (mayC c0 c1 c2 c3 c4 c5 c6), obB false (line < (0 : Int)), (0 : Int) = (0 : Int), (10 : Int) = (10 : Int)] := by kernel_rfl
theorem gran_run4 (c0 c1 c2 c3 c4 c5 c6 line : Int) : callR P ct 100 30 14 [cfg c0 c1 c2 c3 c4 c5 c6, .s .i64 line] [] [.cmp true, .cmp true, .cmp false] [] (.tup [.i .i64 0, .i .i64 10]) [] [] =
    some [obB true ((0 : Int) ≤ line), obB true (mayC c0 c1 c2 c3 c4 c5 c6), IntKind.i64.wrap (c1 * (2 : Int)) = c1 * (2 : Int), obB false (line < c1 * (2 : Int)), (0 : Int) = (0 : Int), (10 : Int) = (10 : Int)] := by kernel_rfl
theorem gran_trip (c0 c1 c2 c3 c4 c5 c6 line : Int) : ((mayC c0 c1 c2 c3 c4 c5 c6 ∧ 0 ≤ line ∧ line < 2 * c1) → FTrip P 14 [cfg c0 c1 c2 c3 c4 c5 c6, .s .i64 line] [] (.tup [.s .i64 (line.tdiv 2), .i .i64 0]) [] []) ∧ (¬ (mayC c0 c1 c2 c3 c4 c5 c6 ∧ 0 ≤ line ∧ line < 2 * c1) → FTrip P 14 [cfg c0 c1 c2 c3 c4 c5 c6, .s .i64 line] [] (.tup [.i .i64 0, .i .i64 10]) [] []) := by
  by_cases h0 : (0 : Int) ≤ line
  · by_cases h1 : mayC c0 c1 c2 c3 c4 c5 c6
    · by_cases h2 : line < c1 * (2 : Int)
      · try have e1 : word.tdiv 2 = word / 2 := Int.tdiv_eq_ediv_of_nonneg (by omega)
        try have e2 : word.tmod 2 = word % 2 := Int.tmod_eq_emod_of_nonneg (by omega)
        try have e3 : line.tdiv 2 = line / 2 := Int.tdiv_eq_ediv_of_nonneg (by omega)
        exact ⟨fun hc => FTrip.callR ct_ok (gran_run0 c0 c1 c2 c3 c4 c5 c6 line) (by (repeat' first | exact trivial | refine And.intro ?_ ?_) <;> first | exact obT (by assumption) | exact obF (by assumption) | rfl | exact obT (by simp only [mayC] at *; omega) | exact obF (by simp only [mayC] at *; omega) | exact wrap_i64 (by simp only [mayC] at *; omega) | (simp only [mayC] at *; omega)), fun hc => absurd (by simp only [mayC] at *; omega) hc⟩
      · try have e1 : word.tdiv 2 = word / 2 := Int.tdiv_eq_ediv_of_nonneg (by omega)
        try have e2 : word.tmod 2 = word % 2 := Int.tmod_eq_emod_of_nonneg (by omega)
        try have e3 : line.tdiv 2 = line / 2 := Int.tdiv_eq_ediv_of_nonneg (by omega)
        exact ⟨fun hc => absurd hc (by simp only [mayC] at *; omega), fun hc => FTrip.callR ct_ok (gran_run4 c0 c1 c2 c3 c4 c5 c6 line) (by (repeat' first | exact trivial | refine And.intro ?_ ?_) <;> first | exact obT (by assumption) | exact obF (by assumption) | rfl | exact obT (by simp only [mayC] at *; omega) | exact obF (by simp only [mayC] at *; omega) | exact wrap_i64 (by simp only [mayC] at *; omega) | (simp only [mayC] at *; omega))⟩
    · by_cases h2 : line < (0 : Int)
      · try have e1 : word.tdiv 2 = word / 2 := Int.tdiv_eq_ediv_of_nonneg (by omega)
        try have e2 : word.tmod 2 = word % 2 := Int.tmod_eq_emod_of_nonneg (by omega)
        try have e3 : line.tdiv 2 = line / 2 := Int.tdiv_eq_ediv_of_nonneg (by omega)
        exact ⟨fun hc => FTrip.callR ct_ok (gran_run2 c0 c1 c2 c3 c4 c5 c6 line) (by (repeat' first | exact trivial | refine And.intro ?_ ?_) <;> first | exact obT (by assumption) | exact obF (by assumption) | rfl | exact obT (by simp only [mayC] at *; omega) | exact obF (by simp only [mayC] at *; omega) | exact wrap_i64 (by simp only [mayC] at *; omega) | (simp only [mayC] at *; omega)), fun hc => absurd (by simp only [mayC] at *; omega) hc⟩
      · try have e1 : word.tdiv 2 = word / 2 := Int.tdiv_eq_ediv_of_nonneg (by omega)
        try have e2 : word.tmod 2 = word % 2 := Int.tmod_eq_emod_of_nonneg (by omega)
        try have e3 : line.tdiv 2 = line / 2 := Int.tdiv_eq_ediv_of_nonneg (by omega)
        exact ⟨fun hc => absurd hc (by simp only [mayC] at *; omega), fun hc => FTrip.callR ct_ok (gran_run3 c0 c1 c2 c3 c4 c5 c6 line) (by (repeat' first | exact trivial | refine And.intro ?_ ?_) <;> first | exact obT (by assumption) | exact obF (by assumption) | rfl | exact obT (by simp only [mayC] at *; omega) | exact obF (by simp only [mayC] at *; omega) | exact wrap_i64 (by simp only [mayC] at *; omega) | (simp only [mayC] at *; omega))⟩
  · try have e1 : word.tdiv 2 = word / 2 := Int.tdiv_eq_ediv_of_nonneg (by omega)
    try have e2 : word.tmod 2 = word % 2 := Int.tmod_eq_emod_of_nonneg (by omega)
    try have e3 : line.tdiv 2 = line / 2 := Int.tdiv_eq_ediv_of_nonneg (by omega)
    exact ⟨fun hc => absurd hc (by simp only [mayC] at *; omega), fun hc => FTrip.callR ct_ok (gran_run1 c0 c1 c2 c3 c4 c5 c6 line) (by (repeat' first | exact trivial | refine And.intro ?_ ?_) <;> first | exact obT (by assumption) | exact obF (by assumption) | rfl | exact obT (by simp only [mayC] at *; omega) | exact obF (by simp only [mayC] at *; omega) | exact wrap_i64 (by simp only [mayC] at *; omega) | (simp only [mayC] at *; omega))⟩
def granS : List LV → List Vse.Tok → List Ans → FOut := fun args m an =>
  match symLs args, m with
  | [.agg [.s .i64 c0, .s .i64 c1, .s .i64 c2, .s .i64 c3, .s .i64 c4, .s .i64 c5, .s .i64 c6], .s .i64 line], [] =>
    (match askB (mayC c0 c1 c2 c3 c4 c5 c6 ∧ 0 ≤ line ∧ line < 2 * c1) an with | some (r, ob, an) => some (bif r then .tup [.s .i64 (line.tdiv 2), .i .i64 0] else .tup [.i .i64 0, .i .i64 10], [], [], ob, an) | none => none)
  | _, _ => none
theorem granS_ok : SpecOK P 14 granS := fun args m an v m' wr ob an' h ho => by
  unfold granS at h
  split at h
  · rename_i c0 c1 c2 c3 c4 c5 c6 line he
    split at h
    · rename_i r ob an1 hask
      cases h
      skip
      have hr := askB_sound hask ho
      cases r with
      | true => exact ((gran_trip c0 c1 c2 c3 c4 c5 c6 line).1 (hr.1 rfl)).args (by rw [he]; rfl)
      | false => exact ((gran_trip c0 c1 c2 c3 c4 c5 c6 line).2 (fun h => by have := hr.2 h; cases this)).args (by rw [he]; rfl)
    · cases h
  · cases h
theorem bank_run0 (c0 c1 c2 c3 c4 c5 c6 line : Int) : callR P ct 100 30 15 [cfg c0 c1 c2 c3 c4 c5 c6, .s .i64 line] [] [.cmp true, .cmp true, .cmp true] [] (.tup [.s .i64 (line.tmod c6), .i .i64 0]) [] [] =
    some [obB true ((0 : Int) ≤ line), obB true (mayC c0 c1 c2 c3 c4 c5 c6), IntKind.i64.wrap (c1 * (2 : Int)) = c1 * (2 : Int), obB true (line < c1 * (2 : Int)), c6 ≠ (0 : Int), line.tmod c6 = line.tmod c6, line.tmod c6 = line.tmod c6, (0 : Int) = (0 : Int)] := by kernel_rfl
theorem bank_run1 (c0 c1 c2 c3 c4 c5 c6 line : Int) : callR P ct 100 30 15 [cfg c0 c1 c2 c3 c4 c5 c6, .s .i64 line] [] [.cmp false] [] (.tup [.i .i64 0, .i .i64 10]) [] [] =
    some [obB false ((0 : Int) ≤ line), (0 : Int) = (0 : Int), (10 : Int) = (10 : Int)] := by kernel_rfl
theorem bank_run2 (c0 c1 c2 c3 c4 c5 c6 line : Int) : callR P ct 100 30 15 [cfg c0 c1 c2 c3 c4 c5 c6, .s .i64 line] [] [.cmp true, .cmp false, .cmp true] [] (.tup [.s .i64 (line.tmod c6), .i .i64 0]) [] [] =
    some [obB true ((0 : Int) ≤ line), obB false (mayC c0 c1 c2 c3 c4 c5 c6), obB true (line < (0 : Int)), c6 ≠ (0 : Int), line.tmod c6 = line.tmod c6, line.tmod c6 = line.tmod c6, (0 : Int) = (0 : Int)] := by kernel_rfl
theorem bank_run3 (c0 c1 c2 c3 c4 c5 c6 line : Int) : callR P ct 100 30 15 [cfg c0 c1 c2 c3 c4 c5 c6, .s .i64 line] [] [.cmp true, .cmp false, .cmp false] [] (.tup [.i .i64 0, .i .i64 10]) [] [] =
    some [obB true ((0 : Int) ≤ line), obB false (mayC c0 c1 c2 c3 c4 c5 c6), obB false (line < (0 : Int)), (0 : Int) = (0 : Int), (10 : Int) = (10 : Int)] := by kernel_rfl
theorem bank_run4 (c0 c1 c2 c3 c4 c5 c6 line : Int) : callR P ct 100 30 15 [cfg c0 c1 c2 c3 c4 c5 c6, .s .i64 line] [] [.cmp true, .cmp true, .cmp false] [] (.tup [.i .i64 0, .i .i64 10]) [] [] =
    some [obB true ((0 : Int) ≤ line), obB true (mayC c0 c1 c2 c3 c4 c5 c6), IntKind.i64.wrap (c1 * (2 : Int)) = c1 * (2 : Int), obB false (line < c1 * (2 : Int)), (0 : Int) = (0 : Int), (10 : Int) = (10 : Int)] := by kernel_rfl
theorem bank_trip (c0 c1 c2 c3 c4 c5 c6 line : Int) : ((mayC c0 c1 c2 c3 c4 c5 c6 ∧ 0 ≤ line ∧ line < 2 * c1) → FTrip P 15 [cfg c0 c1 c2 c3 c4 c5 c6, .s .i64 line] [] (.tup [.s .i64 (line.tmod c6), .i .i64 0]) [] []) ∧ (¬ (mayC c0 c1 c2 c3 c4 c5 c6 ∧ 0 ≤ line ∧ line < 2 * c1) → FTrip P 15 [cfg c0 c1 c2 c3 c4 c5 c6, .s .i64 line] [] (.tup [.i .i64 0, .i .i64 10]) [] []) := by
  by_cases h0 : (0 : Int) ≤ line
  · by_cases h1 : mayC c0 c1 c2 c3 c4 c5 c6
    · by_cases h2 : line < c1 * (2 : Int)
      · try have e1 : word.tdiv 2 = word / 2 := Int.tdiv_eq_ediv_of_nonneg (by omega)
        try have e2 : word.tmod 2 = word % 2 := Int.tmod_eq_emod_of_nonneg (by omega)
        try have e3 : line.tdiv 2 = line / 2 := Int.tdiv_eq_ediv_of_nonneg (by omega)
        exact ⟨fun hc => FTrip.callR ct_ok (bank_run0 c0 c1 c2 c3 c4 c5 c6 line) (by (repeat' first | exact trivial | refine And.intro ?_ ?_) <;> first | exact obT (by assumption) | exact obF (by assumption) | rfl | exact obT (by simp only [mayC] at *; omega) | exact obF (by simp only [mayC] at *; omega) | exact wrap_i64 (by simp only [mayC] at *; omega) | (simp only [mayC] at *; omega)), fun hc => absurd (by simp only [mayC] at *; omega) hc⟩
      · try have e1 : word.tdiv 2 = word / 2 := Int.tdiv_eq_ediv_of_nonneg (by omega)
        try have e2 : word.tmod 2 = word % 2 := Int.tmod_eq_emod_of_nonneg (by omega)
        try have e3 : line.tdiv 2 = line / 2 := Int.tdiv_eq_ediv_of_nonneg (by omega)
        exact ⟨fun hc => absurd hc (by simp only [mayC] at *; omega), fun hc => FTrip.callR ct_ok (bank_run4 c0 c1 c2 c3 c4 c5 c6 line) (by (repeat' first | exact trivial | refine And.intro ?_ ?_) <;> first | exact obT (by assumption) | exact obF (by assumption) | rfl | exact obT (by simp only [mayC] at *; omega) | exact obF (by simp only [mayC] at *; omega) | exact wrap_i64 (by simp only [mayC] at *; omega) | (simp only [mayC] at *; omega))⟩
    · by_cases h2 : line < (0 : Int)
      · try have e1 : word.tdiv 2 = word / 2 := Int.tdiv_eq_ediv_of_nonneg (by omega)
        try have e2 : word.tmod 2 = word % 2 := Int.tmod_eq_emod_of_nonneg (by omega)
        try have e3 : line.tdiv 2 = line / 2 := Int.tdiv_eq_ediv_of_nonneg (by omega)
        exact ⟨fun hc => FTrip.callR ct_ok (bank_run2 c0 c1 c2 c3 c4 c5 c6 line) (by (repeat' first | exact trivial | refine And.intro ?_ ?_) <;> first | exact obT (by assumption) | exact obF (by assumption) | rfl | exact obT (by simp only [mayC] at *; omega) | exact obF (by simp only [mayC] at *; omega) | exact wrap_i64 (by simp only [mayC] at *; omega) | (simp only [mayC] at *; omega)), fun hc => absurd (by simp only [mayC] at *; omega) hc⟩
      · try have e1 : word.tdiv 2 = word / 2 := Int.tdiv_eq_ediv_of_nonneg (by omega)
        try have e2 : word.tmod 2 = word % 2 := Int.tmod_eq_emod_of_nonneg (by omega)
        try have e3 : line.tdiv 2 = line / 2 := Int.tdiv_eq_ediv_of_nonneg (by omega)
        exact ⟨fun hc => absurd hc (by simp only [mayC] at *; omega), fun hc => FTrip.callR ct_ok (bank_run3 c0 c1 c2 c3 c4 c5 c6 line) (by (repeat' first | exact trivial | refine And.intro ?_ ?_) <;> first | exact obT (by assumption) | exact obF (by assumption) | rfl | exact obT (by simp only [mayC] at *; omega) | exact obF (by simp only [mayC] at *; omega) | exact wrap_i64 (by simp only [mayC] at *; omega) | (simp only [mayC] at *; omega))⟩
  · try have e1 : word.tdiv 2 = word / 2 := Int.tdiv_eq_ediv_of_nonneg (by omega)
    try have e2 : word.tmod 2 = word % 2 := Int.tmod_eq_emod_of_nonneg (by omega)
    try have e3 : line.tdiv 2 = line / 2 := Int.tdiv_eq_ediv_of_nonneg (by omega)
    exact ⟨fun hc => absurd hc (by simp only [mayC] at *; omega), fun hc => FTrip.callR ct_ok (bank_run1 c0 c1 c2 c3 c4 c5 c6 line) (by (repeat' first | exact trivial | refine And.intro ?_ ?_) <;> first | exact obT (by assumption) | exact obF (by assumption) | rfl | exact obT (by simp only [mayC] at *; omega) | exact obF (by simp only [mayC] at *; omega) | exact wrap_i64 (by simp only [mayC] at *; omega) | (simp only [mayC] at *; omega))⟩
def bankS : List LV → List Vse.Tok → List Ans → FOut := fun args m an =>
  match symLs args, m with
  | [.agg [.s .i64 c0, .s .i64 c1, .s .i64 c2, .s .i64 c3, .s .i64 c4, .s .i64 c5, .s .i64 c6], .s .i64 line], [] =>
    (match askB (mayC c0 c1 c2 c3 c4 c5 c6 ∧ 0 ≤ line ∧ line < 2 * c1) an with | some (r, ob, an) => some (bif r then .tup [.s .i64 (line.tmod c6), .i .i64 0] else .tup [.i .i64 0, .i .i64 10], [], [], ob, an) | none => none)
  | _, _ => none
theorem bankS_ok : SpecOK P 15 bankS := fun args m an v m' wr ob an' h ho => by
  unfold bankS at h
  split at h
  · rename_i c0 c1 c2 c3 c4 c5 c6 line he
    split at h
    · rename_i r ob an1 hask
      cases h
      skip
      have hr := askB_sound hask ho
      cases r with
      | true => exact ((bank_trip c0 c1 c2 c3 c4 c5 c6 line).1 (hr.1 rfl)).args (by rw [he]; rfl)
      | false => exact ((bank_trip c0 c1 c2 c3 c4 c5 c6 line).2 (fun h => by have := hr.2 h; cases this)).args (by rw [he]; rfl)
    · cases h
  · cases h
def ctB : Ctrs := fun f =>
  if f = 8 then some (.spec checkS) else if f = 19 then some (.spec mayS) else if f = 11 then some (.spec awakeS) else if f = 16 then some (.spec ofS) else if f = 17 then some (.spec grS) else if f = 12 then some (.spec lineS) else if f = 13 then some (.spec wordS) else if f = 14 then some (.spec granS) else if f = 15 then some (.spec bankS) else none
theorem ctB_ok : CtOK P ctB := fun f s h => by
  unfold ctB at h
  split at h
  · rename_i e; subst e; cases h; exact checkS_ok
  · skip
    split at h
    · rename_i e; subst e; cases h; exact mayS_ok
    · skip
      split at h
      · rename_i e; subst e; cases h; exact awakeS_ok
      · skip
        split at h
        · rename_i e; subst e; cases h; exact ofS_ok
        · skip
          split at h
          · rename_i e; subst e; cases h; exact grS_ok
          · skip
            split at h
            · rename_i e; subst e; cases h; exact lineS_ok
            · skip
              split at h
              · rename_i e; subst e; cases h; exact wordS_ok
              · skip
                split at h
                · rename_i e; subst e; cases h; exact granS_ok
                · skip
                  split at h
                  · rename_i e; subst e; cases h; exact bankS_ok
                  · skip
                    cases h
end Go.Proofs.Ytjjfnpidgochnaa
