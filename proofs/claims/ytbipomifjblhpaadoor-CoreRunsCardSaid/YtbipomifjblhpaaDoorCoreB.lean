/- A core: at the beginning, and at a place. -/
import Derived.Test.YtbipomifjblhpaaDoorCheck
namespace Go.Proofs.YtbipomifjblhpaaDoor
open Go Go.Vse
set_option maxRecDepth 100000
set_option maxHeartbeats 4000000
/-- What a core is. -/
structure C where
  a0 : Int
  a1 : Int
  a2 : Int
  a3 : Int
  at_ : Int
  w : Int
  ov : Bool
  no : Int
def coreL (s : C) (k n : Nat) : List LV := [.s .i64 s.a0, .s .i64 s.a1, .s .i64 s.a2, .s .i64 s.a3, .s .i64 s.at_, .s .i64 s.w, .sb s.ov, .s .i64 s.no, .so k n 4]
abbrev mO (s : C) (gs : List Sc) (n : Nat) : List Vse.Tok := [.glob 0 0 formsL, .cells true 34 (coreL s 2 n), .vec 36 gs]
def overM (gs : List Sc) (n : Nat) (t : Int) : Bool := decide ((n : Int) ≤ t) || decide (sA gs (4 * t) = 11)
def standM (gs : List Sc) (n : Nat) (t : Int) (s : C) : C := { s with at_ := t, ov := overM gs n t }
/-- A core out of its cells. -/
def getO : List Vse.Tok → Option (C × List Sc × Nat)
  | [_, .cells _ _ [.s _ a0, .s _ a1, .s _ a2, .s _ a3, .s _ at_, .s _ w, .sb ov, .s _ no, .so _ n _], .vec _ gs] => some (⟨a0, a1, a2, a3, at_, w, ov, no⟩, gs, n)
  | _ => none
theorem ld1 {gs : List Sc} {n : Nat} (hI : isI gs) (hl : gs.length = 4 * n) {t j : Int} (h0 : 0 ≤ t) (h : t < n) (hj : 0 ≤ j ∧ j < 4) {q : Nat} (hq : (q : Int) = 4 * t + j) : (gs[q]?).map Sc.lv = some (.s .i64 (sA gs (4 * t + j))) := by
  have := sA_at hI (k := 4 * t + j) (by omega)
  rw [show (4 * t + j).toNat = q by omega] at this; exact this
theorem std_far (s : C) (gs : List Sc) (n : Nat) (t : Int) : callR P noCt 100 30 21 [.p 1 0, .s .i64 t] (mO s gs n) [.cmp true] [some 0, some 1, some 2] (.tup []) (mO (standM gs n t s) gs n) [1] =
    some [obB true ((n : Int) ≤ t), Vse.Tok.glob 0 0 formsL = Vse.Tok.glob 0 0 formsL, Vse.Tok.vec 36 gs = Vse.Tok.vec 36 gs, formsL = formsL, s.a0 = s.a0, s.a1 = s.a1, s.a2 = s.a2, s.a3 = s.a3, t = t, s.w = s.w, true = overM gs n t, s.no = s.no, n = n, gs = gs] := by kernel_rfl
theorem std_in (s : C) (gs : List Sc) (n : Nat) (t : Int) : callR P noCt 100 30 21 [.p 1 0, .s .i64 t] (mO s gs n) [.cmp false, .ld [.s .i64 (sA gs (4 * t))], .cmp true] [some 0, some 1, some 2] (.tup []) (mO (standM gs n t s) gs n) [1] =
    some [obB false ((n : Int) ≤ t), (0 : Int) ≤ t ∧ t < (n : Int), Option.map Sc.lv gs[t.toNat * 4 + 0]? = some (LV.s IntKind.i64 (sA gs ((4 : Int) * t))), obB true (sA gs ((4 : Int) * t) = (11 : Int)), Vse.Tok.glob 0 0 formsL = Vse.Tok.glob 0 0 formsL, Vse.Tok.vec 36 gs = Vse.Tok.vec 36 gs, formsL = formsL, s.a0 = s.a0, s.a1 = s.a1, s.a2 = s.a2, s.a3 = s.a3, t = t, s.w = s.w, true = overM gs n t, s.no = s.no, n = n, gs = gs] := by kernel_rfl
theorem std_on (s : C) (gs : List Sc) (n : Nat) (t : Int) : callR P noCt 100 30 21 [.p 1 0, .s .i64 t] (mO s gs n) [.cmp false, .ld [.s .i64 (sA gs (4 * t))], .cmp false] [some 0, some 1, some 2] (.tup []) (mO (standM gs n t s) gs n) [1] =
    some [obB false ((n : Int) ≤ t), (0 : Int) ≤ t ∧ t < (n : Int), Option.map Sc.lv gs[t.toNat * 4 + 0]? = some (LV.s IntKind.i64 (sA gs ((4 : Int) * t))), obB false (sA gs ((4 : Int) * t) = (11 : Int)), Vse.Tok.glob 0 0 formsL = Vse.Tok.glob 0 0 formsL, Vse.Tok.vec 36 gs = Vse.Tok.vec 36 gs, formsL = formsL, s.a0 = s.a0, s.a1 = s.a1, s.a2 = s.a2, s.a3 = s.a3, t = t, s.w = s.w, false = overM gs n t, s.no = s.no, n = n, gs = gs] := by kernel_rfl
theorem stand_trip {s : C} {gs : List Sc} {n : Nat} {t : Int} (hI : isI gs) (hl : gs.length = 4 * n) (h0 : 0 ≤ t) : FTrip P 21 [.p 1 0, .s .i64 t] (mO s gs n) (.tup []) (mO (standM gs n t s) gs n) [1] := by
  by_cases h1 : (n : Int) ≤ t
  · exact FTrip.callR noCt_ok (std_far s gs n t) (by (repeat' first | exact trivial | refine And.intro ?_ ?_) <;> first | rfl | assumption | (simp only [overM]; simp; omega) | (simp only [overM]; simp [*]; omega) | (simp [overM, *]) | exact obT (by assumption) | exact obF (by assumption) | exact obT (by omega) | exact obF (by omega) | exact wrap_i64 (by omega) | (omega))
  · by_cases h2 : sA gs (4 * t) = 11
    · exact FTrip.callR noCt_ok (std_in s gs n t) (by (repeat' first | exact trivial | refine And.intro ?_ ?_) <;> first | rfl | assumption | simpa using ld1 hI hl (j := 0) h0 (by omega) (by omega) (by omega) | (have := ld1 hI hl (j := 0) h0 (by omega) ⟨by omega, by omega⟩ (q := t.toNat * 4 + 0) (by omega); simpa using this) | (simp only [overM]; simp; omega) | (simp only [overM]; simp [*]; omega) | (simp [overM, *]) | exact obT (by assumption) | exact obF (by assumption) | exact obT (by omega) | exact obF (by omega) | exact wrap_i64 (by omega) | (omega))
    · exact FTrip.callR noCt_ok (std_on s gs n t) (by (repeat' first | exact trivial | refine And.intro ?_ ?_) <;> first | rfl | assumption | simpa using ld1 hI hl (j := 0) h0 (by omega) (by omega) (by omega) | (have := ld1 hI hl (j := 0) h0 (by omega) ⟨by omega, by omega⟩ (q := t.toNat * 4 + 0) (by omega); simpa using this) | (simp only [overM]; simp; omega) | (simp only [overM]; simp [*]; omega) | (simp [overM, *]) | exact obT (by assumption) | exact obF (by assumption) | exact obT (by omega) | exact obF (by omega) | exact wrap_i64 (by omega) | (omega))
def stdG (args : List LV) (m : List Vse.Tok) : Option (C × List Sc × Nat × Int) :=
  match args, getO m with
  | [_, .s _ t], some (s, gs, n) => some (s, gs, n, t)
  | _, _ => none
def stdS : List LV → List Vse.Tok → List Ans → FOut := specT stdG (fun p => [.p 1 0, .s .i64 p.2.2.2]) (fun p => mO p.1 p.2.1 p.2.2.1) (fun p => [isI p.2.1, p.2.1.length = 4 * p.2.2.1, 0 ≤ p.2.2.2]) (fun _ => .tup []) (fun p => mO (standM p.2.1 p.2.2.1 p.2.2.2 p.1) p.2.1 p.2.2.1) [1]
theorem stdS_ok : SpecOK P 21 stdS := specT_ok (fun p ho => by
  simp only [AllP, and_true] at ho
  exact stand_trip ho.1 ho.2.1 ho.2.2)
def ctN : Ctrs := fun f => if f = 9 then some (.spec chkS) else if f = 21 then some (.spec stdS) else none
theorem ctN_ok : CtOK P ctN := fun f s h => by
  unfold ctN at h
  split at h
  · rename_i e; subst e; cases h; exact chkS_ok
  · split at h
    · rename_i e; subst e; cases h; exact stdS_ok
    · cases h
def newC (no w : Int) (gs : List Sc) (n : Nat) : C := standM gs n 0 ⟨0, 0, 0, 0, 0, w, false, no⟩
def newE (no w : Int) (gs : List Sc) (n : Nat) : Int := if no < 0 ∨ 4 ≤ no ∨ w < 0 ∨ 3 < w then 10 else chkE gs n
theorem new_r0 (fs : List Sc) (o n c : Nat) (no w : Int) : callR P ctN 100 30 8 [.s .i64 no, .s .i64 w, .ss 1 o n c 4] (mCk fs) [.cmp true] [some 0, some 1] (.tup [.p0, .s .i64 (newE no w (fs.drop o) n)]) (mCk fs) [] =
    some [obB true (no < (0 : Int)), Vse.Tok.glob 0 0 formsL = Vse.Tok.glob 0 0 formsL, Vse.Tok.fl false 36 fs = Vse.Tok.fl false 36 fs, formsL = formsL, fs = fs, (10 : Int) = newE no w (List.drop o fs) n] := by kernel_rfl
theorem new_r1 (fs : List Sc) (o n c : Nat) (no w : Int) : callR P ctN 100 30 8 [.s .i64 no, .s .i64 w, .ss 1 o n c 4] (mCk fs) [.cmp false, .cmp true] [some 0, some 1] (.tup [.p0, .s .i64 (newE no w (fs.drop o) n)]) (mCk fs) [] =
    some [obB false (no < (0 : Int)), obB true ((4 : Int) ≤ no), Vse.Tok.glob 0 0 formsL = Vse.Tok.glob 0 0 formsL, Vse.Tok.fl false 36 fs = Vse.Tok.fl false 36 fs, formsL = formsL, fs = fs, (10 : Int) = newE no w (List.drop o fs) n] := by kernel_rfl
theorem new_r2 (fs : List Sc) (o n c : Nat) (no w : Int) : callR P ctN 100 30 8 [.s .i64 no, .s .i64 w, .ss 1 o n c 4] (mCk fs) [.cmp false, .cmp false, .cmp true] [some 0, some 1] (.tup [.p0, .s .i64 (newE no w (fs.drop o) n)]) (mCk fs) [] =
    some [obB false (no < (0 : Int)), obB false ((4 : Int) ≤ no), obB true (w < (0 : Int)), Vse.Tok.glob 0 0 formsL = Vse.Tok.glob 0 0 formsL, Vse.Tok.fl false 36 fs = Vse.Tok.fl false 36 fs, formsL = formsL, fs = fs, (10 : Int) = newE no w (List.drop o fs) n] := by kernel_rfl
theorem new_r3 (fs : List Sc) (o n c : Nat) (no w : Int) : callR P ctN 100 30 8 [.s .i64 no, .s .i64 w, .ss 1 o n c 4] (mCk fs) [.cmp false, .cmp false, .cmp false, .cmp true] [some 0, some 1] (.tup [.p0, .s .i64 (newE no w (fs.drop o) n)]) (mCk fs) [] =
    some [obB false (no < (0 : Int)), obB false ((4 : Int) ≤ no), obB false (w < (0 : Int)), obB true ((3 : Int) < w), Vse.Tok.glob 0 0 formsL = Vse.Tok.glob 0 0 formsL, Vse.Tok.fl false 36 fs = Vse.Tok.fl false 36 fs, formsL = formsL, fs = fs, (10 : Int) = newE no w (List.drop o fs) n] := by kernel_rfl
theorem new_r4 (fs : List Sc) (o n c : Nat) (no w : Int) : callR P ctN 100 30 8 [.s .i64 no, .s .i64 w, .ss 1 o n c 4] (mCk fs) [.cmp false, .cmp false, .cmp false, .cmp false, .cmp true] [some 0, some 1] (.tup [.p0, .s .i64 (newE no w (fs.drop o) n)]) (mCk fs) [] =
    some [obB false (no < (0 : Int)), obB false ((4 : Int) ≤ no), obB false (w < (0 : Int)), obB false ((3 : Int) < w), [Vse.Tok.glob 0 0 formsL, Vse.Tok.fl false 36 fs] = [Vse.Tok.glob 0 0 formsL, Vse.Tok.fl false 36 fs], isI (List.drop o fs), (List.drop o fs).length = 4 * n, obB true (chkE (List.drop o fs) n ≠ (0 : Int)), Vse.Tok.glob 0 0 formsL = Vse.Tok.glob 0 0 formsL, Vse.Tok.fl false 36 fs = Vse.Tok.fl false 36 fs, formsL = formsL, fs = fs, chkE (List.drop o fs) n = newE no w (List.drop o fs) n] := by kernel_rfl
theorem new_ok (fs : List Sc) (o n c : Nat) (no w : Int) : callR P ctN 100 30 8 [.s .i64 no, .s .i64 w, .ss 1 o n c 4] (mCk fs) [.cmp false, .cmp false, .cmp false, .cmp false, .cmp false] [some 0, some 1, some 3, some 2] (.tup [.p 2 0, .i .i64 0]) (mCk fs ++ [.cells true 34 (coreL (newC no w (fs.drop o) n) 3 n), .vec 36 (fs.drop o)]) [] =
    some [obB false (no < (0 : Int)), obB false ((4 : Int) ≤ no), obB false (w < (0 : Int)), obB false ((3 : Int) < w), [Vse.Tok.glob 0 0 formsL, Vse.Tok.fl false 36 fs] = [Vse.Tok.glob 0 0 formsL, Vse.Tok.fl false 36 fs], isI (List.drop o fs), (List.drop o fs).length = 4 * n, obB false (chkE (List.drop o fs) n ≠ (0 : Int)), 0 = 0, plainS (List.take (n * 4) (List.drop o fs)), bytesOk P 36 (0 + n) = true, o + n * 4 ≤ fs.length, [LV.p 1 0, LV.s IntKind.i64 0] = [LV.p 1 0, LV.s IntKind.i64 0], [Vse.Tok.glob 0 0 formsL, Vse.Tok.cells true 34 [LV.s IntKind.i64 0, LV.s IntKind.i64 0, LV.s IntKind.i64 0, LV.s IntKind.i64 0, LV.s IntKind.i64 0, LV.s IntKind.i64 w, LV.sb false, LV.s IntKind.i64 no, LV.so 2 (0 + n) 4], Vse.Tok.vec 36 ([] ++ List.take (n * 4) (List.drop o fs))] = [Vse.Tok.glob 0 0 formsL, Vse.Tok.cells true 34 [LV.s IntKind.i64 0, LV.s IntKind.i64 0, LV.s IntKind.i64 0, LV.s IntKind.i64 0, LV.s IntKind.i64 0, LV.s IntKind.i64 w, LV.sb false, LV.s IntKind.i64 no, LV.so 2 (0 + n) 4], Vse.Tok.vec 36 ([] ++ List.take (n * 4) (List.drop o fs))], isI ([] ++ List.take (n * 4) (List.drop o fs)), ([] ++ List.take (n * 4) (List.drop o fs)).length = 4 * (0 + n), (0 : Int) ≤ (0 : Int), Vse.Tok.glob 0 0 formsL = Vse.Tok.glob 0 0 formsL, Vse.Tok.fl false 36 fs = Vse.Tok.fl false 36 fs, formsL = formsL, fs = fs, (0 : Int) = (0 : Int), (0 : Int) = (0 : Int), (0 : Int) = (0 : Int), (0 : Int) = (0 : Int), (0 : Int) = (0 : Int), w = w, overM ([] ++ List.take (n * 4) (List.drop o fs)) (0 + n) 0 = overM (List.drop o fs) n 0, no = no, 0 + n = n, [] ++ List.take (n * 4) (List.drop o fs) = List.drop o fs, (0 : Int) = (0 : Int)] := by kernel_rfl
theorem clone_eq {fs : List Sc} {o n : Nat} (hl : (fs.drop o).length = 4 * n) : [] ++ List.take (n * 4) (List.drop o fs) = List.drop o fs := by
  rw [List.nil_append, List.take_of_length_le (by omega)]
theorem take_eq {fs : List Sc} {o n : Nat} (hl : (fs.drop o).length = 4 * n) : List.take (n * 4) (List.drop o fs) = List.drop o fs := by
  rw [List.take_of_length_le (by omega)]
theorem le_len {fs : List Sc} {o n : Nat} (ho : o ≤ fs.length) (hl : (fs.drop o).length = 4 * n) : o + n * 4 ≤ fs.length := by
  rw [List.length_drop] at hl; omega
theorem new_trip {fs : List Sc} {o n : Nat} (c : Nat) (no w : Int) (hI : isI (fs.drop o)) (ho : o ≤ fs.length) (hl : (fs.drop o).length = 4 * n) (r : Bool) (hr : obB r (newE no w (fs.drop o) n = 0)) :
    FTrip P 8 [.s .i64 no, .s .i64 w, .ss 1 o n c 4] (mCk fs) (bif r then .tup [.p 2 0, .i .i64 0] else .tup [.p0, .s .i64 (newE no w (fs.drop o) n)]) (bif r then mCk fs ++ [.cells true 34 (coreL (newC no w (fs.drop o) n) 3 n), .vec 36 (fs.drop o)] else mCk fs) [] := by
  have bad : newE no w (fs.drop o) n ≠ 0 → r = false := fun h => by cases r with | true => exact absurd hr h | false => rfl
  by_cases h0 : no < 0
  · rw [bad (by unfold newE; rw [if_pos (by omega)]; decide)]; exact FTrip.callR ctN_ok (new_r0 fs o n c no w) (by (repeat' first | exact trivial | refine And.intro ?_ ?_) <;> first | rfl | assumption | (rw [clone_eq hl]; first | exact isI_plain hI | exact hI | rfl) | (rw [take_eq hl]; exact isI_plain hI) | (rw [clone_eq hl, Nat.zero_add]; first | exact hl | rfl) | exact room36 (by omega) | exact le_len hl | (unfold newE; rw [if_pos (by omega)]) | (unfold newE; rw [if_neg (by omega)]) | exact obT (by assumption) | exact obF (by assumption) | exact obT (by omega) | exact obF (by omega) | exact wrap_i64 (by omega) | (omega))
  by_cases h1 : 4 ≤ no
  · rw [bad (by unfold newE; rw [if_pos (by omega)]; decide)]; exact FTrip.callR ctN_ok (new_r1 fs o n c no w) (by (repeat' first | exact trivial | refine And.intro ?_ ?_) <;> first | rfl | assumption | (rw [clone_eq hl]; first | exact isI_plain hI | exact hI | rfl) | (rw [take_eq hl]; exact isI_plain hI) | (rw [clone_eq hl, Nat.zero_add]; first | exact hl | rfl) | exact room36 (by omega) | exact le_len hl | (unfold newE; rw [if_pos (by omega)]) | (unfold newE; rw [if_neg (by omega)]) | exact obT (by assumption) | exact obF (by assumption) | exact obT (by omega) | exact obF (by omega) | exact wrap_i64 (by omega) | (omega))
  by_cases h2 : w < 0
  · rw [bad (by unfold newE; rw [if_pos (by omega)]; decide)]; exact FTrip.callR ctN_ok (new_r2 fs o n c no w) (by (repeat' first | exact trivial | refine And.intro ?_ ?_) <;> first | rfl | assumption | (rw [clone_eq hl]; first | exact isI_plain hI | exact hI | rfl) | (rw [take_eq hl]; exact isI_plain hI) | (rw [clone_eq hl, Nat.zero_add]; first | exact hl | rfl) | exact room36 (by omega) | exact le_len hl | (unfold newE; rw [if_pos (by omega)]) | (unfold newE; rw [if_neg (by omega)]) | exact obT (by assumption) | exact obF (by assumption) | exact obT (by omega) | exact obF (by omega) | exact wrap_i64 (by omega) | (omega))
  by_cases h3 : 3 < w
  · rw [bad (by unfold newE; rw [if_pos (by omega)]; decide)]; exact FTrip.callR ctN_ok (new_r3 fs o n c no w) (by (repeat' first | exact trivial | refine And.intro ?_ ?_) <;> first | rfl | assumption | (rw [clone_eq hl]; first | exact isI_plain hI | exact hI | rfl) | (rw [take_eq hl]; exact isI_plain hI) | (rw [clone_eq hl, Nat.zero_add]; first | exact hl | rfl) | exact room36 (by omega) | exact le_len hl | (unfold newE; rw [if_pos (by omega)]) | (unfold newE; rw [if_neg (by omega)]) | exact obT (by assumption) | exact obF (by assumption) | exact obT (by omega) | exact obF (by omega) | exact wrap_i64 (by omega) | (omega))
  have he : newE no w (fs.drop o) n = chkE (fs.drop o) n := by unfold newE; rw [if_neg (by omega)]
  by_cases h4 : chkE (fs.drop o) n = 0
  · have : r = true := by cases r with | true => rfl | false => exact absurd (he.trans h4) hr
    have hn := chkE_le h4
    subst this
    exact FTrip.callR ctN_ok (new_ok fs o n c no w) (by (repeat' first | exact trivial | refine And.intro ?_ ?_) <;> first | rfl | assumption | (rw [clone_eq hl]; first | exact isI_plain hI | exact hI | rfl) | (rw [take_eq hl]; exact isI_plain hI) | (rw [clone_eq hl, Nat.zero_add]; first | exact hl | rfl) | exact room36 (by omega) | exact le_len ho hl | (unfold newE; rw [if_pos (by omega)]) | (unfold newE; rw [if_neg (by omega)]) | exact obF (fun h => h h4) | (simp only [newC, standM, clone_eq hl, Nat.zero_add]; done) | exact obT (by assumption) | exact obF (by assumption) | exact obT (by omega) | exact obF (by omega) | exact wrap_i64 (by omega) | (omega))
  · rw [bad (by rw [he]; exact h4)]; exact FTrip.callR ctN_ok (new_r4 fs o n c no w) (by (repeat' first | exact trivial | refine And.intro ?_ ?_) <;> first | rfl | assumption | (rw [clone_eq hl]; first | exact isI_plain hI | exact hI | rfl) | (rw [take_eq hl]; exact isI_plain hI) | (rw [clone_eq hl, Nat.zero_add]; first | exact hl | rfl) | exact room36 (by omega) | exact le_len hl | (unfold newE; rw [if_pos (by omega)]) | (unfold newE; rw [if_neg (by omega)]) | exact he.symm | exact obT (by assumption) | exact obF (by assumption) | exact obT (by omega) | exact obF (by omega) | exact wrap_i64 (by omega) | (omega))
abbrev NewP := List Sc × Nat × Nat × Nat × Int × Int
def newG (args : List LV) (m : List Vse.Tok) : Option NewP :=
  match args, m with
  | [.s _ no, .s _ w, .ss _ o n c _], [_, .fl _ _ fs] => some (fs, o, n, c, no, w)
  | _, _ => none
def newS : List LV → List Vse.Tok → List Ans → FOut := specB newG (fun (fs, o, n, c, no, w) => [.s .i64 no, .s .i64 w, .ss 1 o n c 4]) (fun (fs, o, n, c, no, w) => mCk fs) (fun (fs, o, n, c, no, w) => newE no w (fs.drop o) n = 0)
  (fun (fs, o, n, c, no, w) => [isI (fs.drop o), o ≤ fs.length, (fs.drop o).length = 4 * n]) (fun (fs, o, n, c, no, w) r => bif r then .tup [.p 2 0, .i .i64 0] else .tup [.p0, .s .i64 (newE no w (fs.drop o) n)])
  (fun (fs, o, n, c, no, w) r => bif r then mCk fs ++ [.cells true 34 (coreL (newC no w (fs.drop o) n) 3 n), .vec 36 (fs.drop o)] else mCk fs) []
theorem newS_ok : SpecOK P 8 newS := specB_ok (fun p r hr ho => by
  obtain ⟨fs, o, n, c, no, w⟩ := p
  simp only [AllP, and_true] at ho
  exact new_trip c no w ho.1 ho.2.1 ho.2.2 r hr)
def ctW : Ctrs := fun f => if f = 9 then some (.spec chkS) else if f = 8 then some (.spec newS) else if f = 7 then some .dark else none
theorem ctW_ok : CtOK P ctW := fun f s h => by
  unfold ctW at h
  split at h
  · rename_i e; subst e; cases h; exact chkS_ok
  · split at h
    · rename_i e; subst e; cases h; exact newS_ok
    · split at h <;> cases h
end Go.Proofs.YtbipomifjblhpaaDoor
