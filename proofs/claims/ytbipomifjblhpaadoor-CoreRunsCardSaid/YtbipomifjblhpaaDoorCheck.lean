/- What is wrong with a program, and where: the program's judgement. -/
import Derived.Test.YtbipomifjblhpaaDoorMay
namespace Go.Proofs.YtbipomifjblhpaaDoor
open Go Go.Vse
set_option maxRecDepth 100000
set_option maxHeartbeats 4000000
/-- What is wrong with the instruction at a place. -/
def mayA (gs : List Sc) (L k : Int) : Int := mayM (sA gs (4 * k)) (sA gs (4 * k + 1)) (sA gs (4 * k + 2)) (sA gs (4 * k + 3)) L
theorem ld4o {fs : List Sc} {o : Nat} (hI : isI (fs.drop o)) {k : Int} (h0 : 0 ≤ k) (h : 4 * k + 4 ≤ (fs.drop o).length) : ((fs.drop (o + k.toNat * 4)).take 4).map Sc.lv = [.s .i64 (sA (fs.drop o) (4 * k)), .s .i64 (sA (fs.drop o) (4 * k + 1)), .s .i64 (sA (fs.drop o) (4 * k + 2)), .s .i64 (sA (fs.drop o) (4 * k + 3))] := by
  obtain ⟨n, rfl⟩ : ∃ n : Nat, k = n := ⟨k.toNat, by omega⟩
  rw [← List.drop_drop]
  generalize fs.drop o = gs at *
  have e : ∀ (j : Nat) (hj : j < 4), Sc.lv (gs[4 * n + j]'(by omega)) = .s .i64 (sA gs (4 * (n : Int) + (j : Int))) := fun j hj => by
    have h1 := sA_nat hI (j := 4 * n + j) (by omega)
    rw [List.getElem?_eq_getElem (by omega)] at h1
    have h2 : ((4 * n + j : Nat) : Int) = 4 * (n : Int) + (j : Int) := by omega
    rw [h2] at h1
    simpa using h1
  have e0 := e 0 (by omega); have e1 := e 1 (by omega); have e2 := e 2 (by omega); have e3 := e 3 (by omega)
  have hd : gs.drop (4 * n) = gs[4 * n]'(by omega) :: gs[4 * n + 1]'(by omega) :: gs[4 * n + 2]'(by omega) :: gs[4 * n + 3]'(by omega) :: gs.drop (4 * n + 4) := by
    rw [List.drop_eq_getElem_cons (by omega), List.drop_eq_getElem_cons (by omega), List.drop_eq_getElem_cons (by omega), List.drop_eq_getElem_cons (by omega)]
  have hk : ((n : Int)).toNat * 4 = 4 * n := by omega
  rw [hk, hd]
  simp only [List.take_succ_cons, List.take_zero, List.map_cons, List.map_nil, Nat.add_zero] at *
  rw [e0, e1, e2, e3]
  simp
def ctM : Ctrs := fun f => if f = 22 then some (.spec mayS) else none
theorem ctM_ok : CtOK P ctM := fun f s h => by
  unfold ctM at h
  split at h
  · rename_i e; subst e; cases h; exact mayS_ok
  · cases h
abbrev mCk (fs : List Sc) : List Vse.Tok := [.glob 0 0 formsL, .fl false 36 fs]
def mkC (fs : List Sc) (o n c : Nat) (i : Int) : St := { fr := Tr.but 27 [(0, .ss 1 o n c 4), (10, .ss 1 o n c 4), (11, .s .i64 (Int.ofNat n)), (12, .s .i64 i)], n := 27, m := mCk fs, dm := [], wr := [] }
def finC (fs : List Sc) (x y : Int) : St := { fr := Tr.but 27 [(2, .s .i64 x), (3, .s .i64 y)], n := 27, m := mCk fs, dm := [], wr := [] }
def endC (fs : List Sc) : St := { fr := Tr.but 27 [], n := 27, m := mCk fs, dm := [], wr := [] }
theorem ck_round (fs : List Sc) (o n c : Nat) (i : Int) : roundX P ctM 100 30 none (lpAt P 9 [1,1,0,1,0]) (mkC fs o n c i) [.ld [.s .i64 (sA (fs.drop o) (4 * i)), .s .i64 (sA (fs.drop o) (4 * i + 1)), .s .i64 (sA (fs.drop o) (4 * i + 2)), .s .i64 (sA (fs.drop o) (4 * i + 3))], .cmp true, .cmp false] 2 [some 0, some 1] (mkC fs o n c (i + 1)) =
    some (Exit.normal, [obB true (i < Int.ofNat n), (0 : Int) ≤ i ∧ i < (n : Int), (List.map Sc.lv (List.take 4 (List.drop (o + i.toNat * 4) fs))) = [LV.s IntKind.i64 (match (List.drop o fs)[((4 : Int) * i).toNat]? with | some (Sc.i k x) => x | x => 0), LV.s IntKind.i64 (match (List.drop o fs)[((4 : Int) * i + (1 : Int)).toNat]? with | some (Sc.i k x) => x | x => 0), LV.s IntKind.i64 (match (List.drop o fs)[((4 : Int) * i + (2 : Int)).toNat]? with | some (Sc.i k x) => x | x => 0), LV.s IntKind.i64 (match (List.drop o fs)[((4 : Int) * i + (3 : Int)).toNat]? with | some (Sc.i k x) => x | x => 0)], [Vse.Tok.glob 0 0 formsL] = [Vse.Tok.glob 0 0 formsL], obB false (mayM (match (List.drop o fs)[((4 : Int) * i).toNat]? with | some (Sc.i k x) => x | x => 0) (match (List.drop o fs)[((4 : Int) * i + (1 : Int)).toNat]? with | some (Sc.i k x) => x | x => 0) (match (List.drop o fs)[((4 : Int) * i + (2 : Int)).toNat]? with | some (Sc.i k x) => x | x => 0) (match (List.drop o fs)[((4 : Int) * i + (3 : Int)).toNat]? with | some (Sc.i k x) => x | x => 0) (n : Int) ≠ (0 : Int)), IntKind.i64.wrap (i + (1 : Int)) = i + (1 : Int), formsL = formsL, fs = fs, o = o, n = n, c = c, 4 = 4, o = o, n = n, c = c, 4 = 4, Int.ofNat n = Int.ofNat n, i + (1 : Int) = i + (1 : Int)]) := by kernel_rfl
theorem ck_bad (fs : List Sc) (o n c : Nat) (i : Int) : roundX P ctM 100 30 none (lpAt P 9 [1,1,0,1,0]) (mkC fs o n c i) [.ld [.s .i64 (sA (fs.drop o) (4 * i)), .s .i64 (sA (fs.drop o) (4 * i + 1)), .s .i64 (sA (fs.drop o) (4 * i + 2)), .s .i64 (sA (fs.drop o) (4 * i + 3))], .cmp true, .cmp true] 2 [some 0, some 1] (finC fs (i + 1) (mayA (fs.drop o) (Int.ofNat n) i)) =
    some (Exit.ret, [obB true (i < Int.ofNat n), (0 : Int) ≤ i ∧ i < (n : Int), (List.map Sc.lv (List.take 4 (List.drop (o + i.toNat * 4) fs))) = [LV.s IntKind.i64 (match (List.drop o fs)[((4 : Int) * i).toNat]? with | some (Sc.i k x) => x | x => 0), LV.s IntKind.i64 (match (List.drop o fs)[((4 : Int) * i + (1 : Int)).toNat]? with | some (Sc.i k x) => x | x => 0), LV.s IntKind.i64 (match (List.drop o fs)[((4 : Int) * i + (2 : Int)).toNat]? with | some (Sc.i k x) => x | x => 0), LV.s IntKind.i64 (match (List.drop o fs)[((4 : Int) * i + (3 : Int)).toNat]? with | some (Sc.i k x) => x | x => 0)], [Vse.Tok.glob 0 0 formsL] = [Vse.Tok.glob 0 0 formsL], obB true (mayM (match (List.drop o fs)[((4 : Int) * i).toNat]? with | some (Sc.i k x) => x | x => 0) (match (List.drop o fs)[((4 : Int) * i + (1 : Int)).toNat]? with | some (Sc.i k x) => x | x => 0) (match (List.drop o fs)[((4 : Int) * i + (2 : Int)).toNat]? with | some (Sc.i k x) => x | x => 0) (match (List.drop o fs)[((4 : Int) * i + (3 : Int)).toNat]? with | some (Sc.i k x) => x | x => 0) (n : Int) ≠ (0 : Int)), IntKind.i64.wrap (i + (1 : Int)) = i + (1 : Int), formsL = formsL, fs = fs, i + (1 : Int) = i + (1 : Int), mayM (match (List.drop o fs)[((4 : Int) * i).toNat]? with | some (Sc.i k x) => x | x => 0) (match (List.drop o fs)[((4 : Int) * i + (1 : Int)).toNat]? with | some (Sc.i k x) => x | x => 0) (match (List.drop o fs)[((4 : Int) * i + (2 : Int)).toNat]? with | some (Sc.i k x) => x | x => 0) (match (List.drop o fs)[((4 : Int) * i + (3 : Int)).toNat]? with | some (Sc.i k x) => x | x => 0) (n : Int) = mayA (List.drop o fs) (Int.ofNat n) i]) := by kernel_rfl
theorem ck_end (fs : List Sc) (o n c : Nat) (i : Int) : roundX P ctM 100 30 none (lpAt P 9 [1,1,0,1,0]) (mkC fs o n c i) [.ld [.s .i64 (sA (fs.drop o) (4 * i)), .s .i64 (sA (fs.drop o) (4 * i + 1)), .s .i64 (sA (fs.drop o) (4 * i + 2)), .s .i64 (sA (fs.drop o) (4 * i + 3))], .cmp false] 2 [some 0, some 1] (endC fs) =
    some (Exit.exit 0, [obB false (i < Int.ofNat n), formsL = formsL, fs = fs]) := by kernel_rfl
/-- The first bad place. -/
def bad (gs : List Sc) (n : Nat) : Option Nat := (List.range n).find? fun k => mayA gs n k != 0
def badP (gs : List Sc) (n : Nat) : Int := ((bad gs n).getD 0 : Nat)
theorem ck_step {fs : List Sc} {o n : Nat} (c : Nat) {i : Nat} (hI : isI (fs.drop o)) (hn : n ≤ 32) (hl : (fs.drop o).length = 4 * n) (hi : i < n) (hg : mayA (fs.drop o) n i = 0) :
    Walk (cW P (lpAt P 9 [1,1,0,1,0])) none 2 (mkC fs o n c i) .normal (mkC fs o n c ((i + 1 : Nat) : Int)) := by
  rw [Int.natCast_succ]
  have h1 : (i : Int) < Int.ofNat n := by have : Int.ofNat n = (n : Int) := rfl; omega
  exact roundX_sound ctM_ok (ck_round fs o n c i) (by (repeat' first | exact trivial | refine And.intro ?_ ?_) <;> first | rfl | assumption | exact ld4o hI (by omega) (by omega) | exact obF (fun h => h hg) | exact obT (by assumption) | exact obF (by assumption) | exact obT (by omega) | exact obF (by omega) | exact wrap_i64 (by omega) | (omega))
theorem ck_last {fs : List Sc} {o n : Nat} (c : Nat) {i : Nat} (hI : isI (fs.drop o)) (hn : n ≤ 32) (hl : (fs.drop o).length = 4 * n) (hi : i < n) (hg : mayA (fs.drop o) n i ≠ 0) :
    Walk (cW P (lpAt P 9 [1,1,0,1,0])) none 2 (mkC fs o n c i) .ret (finC fs ((i : Int) + 1) (mayA (fs.drop o) (Int.ofNat n) i)) := by
  have h1 : (i : Int) < Int.ofNat n := by have : Int.ofNat n = (n : Int) := rfl; omega
  exact roundX_sound ctM_ok (ck_bad fs o n c i) (by (repeat' first | exact trivial | refine And.intro ?_ ?_) <;> first | rfl | assumption | exact ld4o hI (by omega) (by omega) | exact obT hg | exact obT (by assumption) | exact obF (by assumption) | exact obT (by omega) | exact obF (by omega) | exact wrap_i64 (by omega) | (omega))
def ckFound (fs : List Sc) (o n c : Nat) : LoopFn := lpOf 2 [some 0, some 1] none (fun _ => some ()) (fun _ => mkC fs o n c 0) .ret (fun _ => finC fs (badP (fs.drop o) n + 1) (mayA (fs.drop o) (Int.ofNat n) (badP (fs.drop o) n))) [] (fun _ => [isI (fs.drop o), n ≤ 32, (fs.drop o).length = 4 * n, (bad (fs.drop o) n).isSome = true])
def ckNone (fs : List Sc) (o n c : Nat) : LoopFn := lpOf 2 [some 0, some 1] none (fun _ => some ()) (fun _ => mkC fs o n c 0) (.exit 0) (fun _ => endC fs) [] (fun _ => [isI (fs.drop o), n ≤ 32, (fs.drop o).length = 4 * n, bad (fs.drop o) n = none])
theorem ckFound_ok (fs : List Sc) (o n c : Nat) : LoopOK P none (lpAt P 9 [1,1,0,1,0]) (ckFound fs o n c) := lpOf_ok (fun _ hob => by
  simp only [AllP, and_true] at hob
  obtain ⟨hI, hn, hl, hb⟩ := hob
  obtain ⟨k, hk⟩ := Option.isSome_iff_exists.1 hb
  have hp : badP (fs.drop o) n = (k : Int) := by simp [badP, hk]
  obtain ⟨hk1, hk2, hk3⟩ := List.find?_range_eq_some.1 hk
  have hst : ∀ i, i < k → Walk (cW P (lpAt P 9 [1,1,0,1,0])) none 2 (mkC fs o n c i) .normal (mkC fs o n c ((i + 1 : Nat) : Int)) := fun i hi => ck_step c hI hn hl (by have := List.mem_range.1 hk2; omega) (by have := hk3 i hi; simpa using this)
  have := loop_walk (mk := fun i : Nat => mkC fs o n c i) (by simp) k (fun _ _ => rfl) hst (ck_last c hI hn hl (List.mem_range.1 hk2) (by simpa using hk1))
  show Walk _ none 2 (mkC fs o n c 0) .ret (finC fs (badP (fs.drop o) n + 1) (mayA (fs.drop o) (Int.ofNat n) (badP (fs.drop o) n)))
  rw [hp]; exact this)
theorem ckNone_ok (fs : List Sc) (o n c : Nat) : LoopOK P none (lpAt P 9 [1,1,0,1,0]) (ckNone fs o n c) := lpOf_ok (fun _ hob => by
  simp only [AllP, and_true] at hob
  obtain ⟨hI, hn, hl, hb⟩ := hob
  have hk := List.find?_eq_none.1 hb
  have hst : ∀ i, i < n → Walk (cW P (lpAt P 9 [1,1,0,1,0])) none 2 (mkC fs o n c i) .normal (mkC fs o n c ((i + 1 : Nat) : Int)) := fun i hi => ck_step c hI hn hl hi (by have := hk i (List.mem_range.2 hi); simpa using this)
  exact loop_walk (mk := fun i : Nat => mkC fs o n c i) (by simp) n (fun _ _ => rfl) hst (roundX_sound ctM_ok (ck_end fs o n c n) ⟨obF (fun h => by have : Int.ofNat n = (n : Int) := rfl; omega), rfl, rfl, trivial⟩))
def chkE (gs : List Sc) (n : Nat) : Int := if 32 < n then 11 else match bad gs n with | some k => mayA gs n k | none => 0
def chkP (gs : List Sc) (n : Nat) : Int := if 32 < n then 0 else match bad gs n with | some k => k + 1 | none => 0
theorem check_long (fs : List Sc) (o n c : Nat) : callR P ctM 100 30 9 [.ss 1 o n c 4] (mCk fs) [.cmp true] [some 0, some 1] (.tup [.i .i64 0, .i .i64 11]) (mCk fs) [] =
    some [obB true ((32 : Int) < (n : Int)), Vse.Tok.glob 0 0 formsL = Vse.Tok.glob 0 0 formsL, Vse.Tok.fl false 36 fs = Vse.Tok.fl false 36 fs, formsL = formsL, fs = fs, (0 : Int) = (0 : Int), (11 : Int) = (11 : Int)] := by kernel_rfl
theorem check_bad (fs : List Sc) (o n c : Nat) : callR P ctM 100 30 9 [.ss 1 o n c 4] (mCk fs) [.cmp false, .lp (ckFound fs o n c)] [some 0, some 1] (.tup [.s .i64 (badP (fs.drop o) n + 1), .s .i64 (mayA (fs.drop o) (Int.ofNat n) (badP (fs.drop o) n))]) (mCk fs) [] =
    some [obB false ((32 : Int) < (n : Int)), LoopOK P none (lpAt P 9 [1,1,0,1,0]) (ckFound fs o n c), formsL = formsL, fs = fs, o = o, n = n, c = c, 4 = 4, o = o, n = n, c = c, 4 = 4, (n : Int) = Int.ofNat n, (0 : Int) = (0 : Int), Vse.Tok.glob 0 0 formsL = Vse.Tok.glob 0 0 formsL, Vse.Tok.fl false 36 fs = Vse.Tok.fl false 36 fs, isI (List.drop o fs), n ≤ 32, (List.drop o fs).length = 4 * n, (bad (List.drop o fs) n).isSome = true, Vse.Tok.glob 0 0 formsL = Vse.Tok.glob 0 0 formsL, Vse.Tok.fl false 36 fs = Vse.Tok.fl false 36 fs, formsL = formsL, fs = fs, badP (List.drop o fs) n + (1 : Int) = badP (List.drop o fs) n + (1 : Int), mayA (List.drop o fs) (Int.ofNat n) (badP (List.drop o fs) n) = mayA (List.drop o fs) (Int.ofNat n) (badP (List.drop o fs) n)] := by kernel_rfl
theorem check_good (fs : List Sc) (o n c : Nat) : callR P ctM 100 30 9 [.ss 1 o n c 4] (mCk fs) [.cmp false, .lp (ckNone fs o n c)] [some 0, some 1] (.tup [.i .i64 0, .i .i64 0]) (mCk fs) [] =
    some [obB false ((32 : Int) < (n : Int)), LoopOK P none (lpAt P 9 [1,1,0,1,0]) (ckNone fs o n c), formsL = formsL, fs = fs, o = o, n = n, c = c, 4 = 4, o = o, n = n, c = c, 4 = 4, (n : Int) = Int.ofNat n, (0 : Int) = (0 : Int), Vse.Tok.glob 0 0 formsL = Vse.Tok.glob 0 0 formsL, Vse.Tok.fl false 36 fs = Vse.Tok.fl false 36 fs, isI (List.drop o fs), n ≤ 32, (List.drop o fs).length = 4 * n, bad (List.drop o fs) n = none, Vse.Tok.glob 0 0 formsL = Vse.Tok.glob 0 0 formsL, Vse.Tok.fl false 36 fs = Vse.Tok.fl false 36 fs, formsL = formsL, fs = fs, (0 : Int) = (0 : Int), (0 : Int) = (0 : Int)] := by kernel_rfl
theorem check_trip {fs : List Sc} {o n : Nat} (c : Nat) (hI : isI (fs.drop o)) (hl : (fs.drop o).length = 4 * n) : FTrip P 9 [.ss 1 o n c 4] (mCk fs) (.tup [.s .i64 (chkP (fs.drop o) n), .s .i64 (chkE (fs.drop o) n)]) (mCk fs) [] := by
  by_cases hn : 32 < n
  · have h := FTrip.callR ctM_ok (check_long fs o n c) (by (repeat' first | exact trivial | refine And.intro ?_ ?_) <;> first | rfl | assumption | exact ckFound_ok fs o n c | exact ckNone_ok fs o n c | exact obT (by assumption) | exact obF (by assumption) | exact obT (by omega) | exact obF (by omega) | exact wrap_i64 (by omega) | (omega))
    exact h.val (by simp only [chkP, chkE, if_pos hn]; rfl)
  · have hn' : n ≤ 32 := by omega
    cases hb : bad (fs.drop o) n with
    | some k =>
      have hs : (bad (fs.drop o) n).isSome = true := by rw [hb]; rfl
      have h := FTrip.callR ctM_ok (check_bad fs o n c) (by (repeat' first | exact trivial | refine And.intro ?_ ?_) <;> first | rfl | assumption | exact ckFound_ok fs o n c | exact ckNone_ok fs o n c | exact obT (by assumption) | exact obF (by assumption) | exact obT (by omega) | exact obF (by omega) | exact wrap_i64 (by omega) | (omega))
      refine h.val ?_
      have : badP (fs.drop o) n = (k : Int) := by simp [badP, hb]
      simp only [chkP, chkE, if_neg hn, hb, this]; rfl
    | none =>
      have h := FTrip.callR ctM_ok (check_good fs o n c) (by (repeat' first | exact trivial | refine And.intro ?_ ?_) <;> first | rfl | assumption | exact ckFound_ok fs o n c | exact ckNone_ok fs o n c | exact obT (by assumption) | exact obF (by assumption) | exact obT (by omega) | exact obF (by omega) | exact wrap_i64 (by omega) | (omega))
      exact h.val (by simp only [chkP, chkE, if_neg hn, hb]; rfl)
def chkS : List LV → List Vse.Tok → List Ans → FOut := fun args m an =>
  match args, m with
  | [.ss 1 o n _ 4], [_, .fl _ _ fs] => some (.tup [.s .i64 (chkP (fs.drop o) n), .s .i64 (chkE (fs.drop o) n)], m, [], [m = mCk fs, isI (fs.drop o), (fs.drop o).length = 4 * n], an)
  | _, _ => none
theorem chkS_ok : SpecOK P 9 chkS := fun args m an v m' wr ob an' h hob => by
  unfold chkS at h
  split at h
  · rename_i o n c t rw T fs
    cases h
    simp only [AllP, and_true] at hob
    obtain ⟨hm, hI, hl⟩ := hob
    have := check_trip c hI hl
    rw [hm]; exact this
  · cases h
theorem chkE_le {gs : List Sc} {n : Nat} (h : chkE gs n = 0) : n ≤ 32 := by
  unfold chkE at h
  split at h
  · cases h
  · omega
/-- Clone's room. -/
theorem bytes36 : P.bytesOf 36 = 32 := by kernel_rfl
theorem room36 {n : Nat} (h : n ≤ 1000) : bytesOk P 36 n = true := by
  unfold bytesOk
  simp only [bytes36, Bool.and_eq_true, decide_eq_true_eq]
  omega
end Go.Proofs.YtbipomifjblhpaaDoor
