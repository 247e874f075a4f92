/- A core's run of its own instructions. -/
import Derived.Test.YtbipomifjblhpaaDoorLocal
namespace Go.Proofs.YtbipomifjblhpaaDoor
open Go Go.Vse
set_option maxRecDepth 100000
set_option maxHeartbeats 4000000
theorem mayM_P {op a b c L : Int} (h : mayM op a b c L = 0) : mayP op a b c L := by
  unfold mayM at h
  split at h
  · cases h
  · split at h
    · assumption
    · cases h
/-- A core that stands as it should, of a program that may be. -/
def Good (gs : List Sc) (n : Nat) (s : C) : Prop := InvC gs n s ∧ chkE gs n = 0
theorem chkE_ok {gs : List Sc} {n : Nat} (h : chkE gs n = 0) : n ≤ 32 ∧ ∀ k : Nat, k < n → mayA gs n k = 0 := by
  refine ⟨chkE_le h, fun k hk => ?_⟩
  unfold chkE at h
  rw [if_neg (by have := chkE_le h; omega)] at h
  split at h
  · rename_i j hj
    have := (List.find?_range_eq_some.1 hj).1
    simp only [bne_iff_ne] at this
    exact absurd h this
  · rename_i hj
    have := List.find?_eq_none.1 hj k (List.mem_range.2 hk)
    simpa using this
theorem Good.may {gs : List Sc} {n : Nat} {s : C} (h : Good gs n s) : s.ov = false → mayP (iOp gs s) (iA gs s) (iB gs s) (iC gs s) n := fun ho => by
  have h1 := (h.1.lt ho).1
  have h0 := h.1.2.2.1
  obtain ⟨k, hk⟩ : ∃ k : Nat, s.at_ = k := ⟨s.at_.toNat, by omega⟩
  have := (chkE_ok h.2).2 k (by omega)
  rw [← hk] at this
  exact mayM_P this
theorem Good.le {gs : List Sc} {n : Nat} {s : C} (h : Good gs n s) : n ≤ 32 := chkE_le h.2
theorem Good.next {gs : List Sc} {n : Nat} {s : C} (h : Good gs n s) : Good gs n (nxtM gs n s) := by
  unfold nxtM
  split
  · rename_i hl
    have ho : s.ov = false := by simp only [isL, Bool.and_eq_true, Bool.not_eq_true'] at hl; exact hl.1
    have hv := h.may ho
    have h0 := h.1.2.2.1
    refine ⟨⟨h.1.1, h.1.2.1, ?_, rfl⟩, h.2⟩
    show 0 ≤ toM gs s
    unfold toM
    simp only [mayP] at hv
    split
    · omega
    · split <;> omega
  · exact h
def locS : List LV → List Vse.Tok → List Ans → FOut := specT (fun _ m => getO m) (fun _ => [.p 1 0]) (fun p => mO p.1 p.2.1 p.2.2) (fun p => [Good p.2.1 p.2.2 p.1]) (fun p => .tup [.agg (evL p.2.1 p.1), .sb (isL p.2.1 p.1)]) (fun p => mO (nxtM p.2.1 p.2.2 p.1) p.2.1 p.2.2) [1]
theorem locS_ok : SpecOK P 12 locS := specT_ok (fun p ho => by
  simp only [AllP, and_true] at ho
  exact local_trip ho.1 ho.may ho.le)
def ctR : Ctrs := fun f => if f = 12 then some (.spec locS) else none
theorem ctR_ok : CtOK P ctR := fun f s h => by
  unfold ctR at h
  split at h
  · rename_i e; subst e; cases h; exact locS_ok
  · cases h
/-- The core behind so many of its instructions; their events. -/
def stR (gs : List Sc) (n : Nat) (s : C) : Nat → C
  | 0 => s
  | k + 1 => nxtM gs n (stR gs n s k)
def evS (gs : List Sc) (s : C) : List Sc := [.i .i64 (evX gs s s.no), .i .i64 (evX gs s s.at_), .i .i64 (evX gs s (iOp gs s)), .i .i64 (evX gs s s.w), .i .i64 0, .i .i64 (evX gs s (valM gs s)), .i .i64 (evX gs s (codM gs s))]
def evsS (gs : List Sc) (n : Nat) (s : C) : Nat → List Sc
  | 0 => []
  | k + 1 => evsS gs n s k ++ evS gs (stR gs n s k)
theorem stR_good {gs : List Sc} {n : Nat} {s : C} (h : Good gs n s) : ∀ k, Good gs n (stR gs n s k)
  | 0 => h
  | k + 1 => (stR_good h k).next
theorem evsS_length {gs : List Sc} {n : Nat} {s : C} : ∀ k, (evsS gs n s k).length = k * 7
  | 0 => rfl
  | k + 1 => by simp only [evsS, List.length_append, evsS_length k, evS, List.length_cons, List.length_nil]; omega
theorem bytes42 : P.bytesOf 42 = 56 := by kernel_rfl
theorem room42 {n : Nat} (h : n ≤ 1000) : bytesOk P 42 n = true := by
  unfold bytesOk
  simp only [bytes42, Bool.and_eq_true, decide_eq_true_eq]
  omega
def mkR (gs : List Sc) (n : Nat) (s : C) (most : Int) (k : Nat) : St := { fr := Tr.but 24 [(0, .p 1 0), (1, .s .i64 most), (5, .so 3 k 7)], n := 24, m := mO (stR gs n s k) gs n ++ [.vec 42 (evsS gs n s k)], dm := [], wr := [] }
def finR (gs : List Sc) (n : Nat) (s : C) (k : Nat) : St := { fr := Tr.but 24 [(5, .so 3 k 7)], n := 24, m := mO (stR gs n s k) gs n ++ [.vec 42 (evsS gs n s k)], dm := [], wr := [] }
/-- How many instructions it is. -/
def RunsTo (gs : List Sc) (n : Nat) (s : C) (most : Int) (J : Nat) : Prop := (∀ k, k < J → (k : Int) < most ∧ isL gs (stR gs n s k) = true) ∧ (¬ (J : Int) < most ∨ isL gs (stR gs n s J) = false)
theorem run_step (gs : List Sc) (n : Nat) (s : C) (most : Int) (k : Nat) : roundX P ctR 100 30 none (lpAt P 11 [1,0,1,1,0,0]) (mkR gs n s most k) [.cmp true, .cmp false] 3 [some 0, some 1, some 2, some 6] (mkR gs n s most (k + 1)) =
    some (Exit.normal, [obB true ((k : Int) < most), [LV.p 1 0] = [LV.p 1 0], [Vse.Tok.glob 0 0 formsL, Vse.Tok.cells true 34 [LV.s IntKind.i64 (stR gs n s k).a0, LV.s IntKind.i64 (stR gs n s k).a1, LV.s IntKind.i64 (stR gs n s k).a2, LV.s IntKind.i64 (stR gs n s k).a3, LV.s IntKind.i64 (stR gs n s k).at_, LV.s IntKind.i64 (stR gs n s k).w, LV.sb (stR gs n s k).ov, LV.s IntKind.i64 (stR gs n s k).no, LV.so 2 n 4], Vse.Tok.vec 36 gs] = [Vse.Tok.glob 0 0 formsL, Vse.Tok.cells true 34 [LV.s IntKind.i64 (stR gs n s k).a0, LV.s IntKind.i64 (stR gs n s k).a1, LV.s IntKind.i64 (stR gs n s k).a2, LV.s IntKind.i64 (stR gs n s k).a3, LV.s IntKind.i64 (stR gs n s k).at_, LV.s IntKind.i64 (stR gs n s k).w, LV.sb (stR gs n s k).ov, LV.s IntKind.i64 (stR gs n s k).no, LV.so 2 n 4], Vse.Tok.vec 36 gs], Good gs n (stR gs n s k), obB false ((!isL gs (stR gs n s k)) = true), (evsS gs n s k).length = k * 7, plainS [Sc.i IntKind.i64 (evX gs (stR gs n s k) (stR gs n s k).no), Sc.i IntKind.i64 (evX gs (stR gs n s k) (stR gs n s k).at_), Sc.i IntKind.i64 (evX gs (stR gs n s k) (iOp gs (stR gs n s k))), Sc.i IntKind.i64 (evX gs (stR gs n s k) (stR gs n s k).w), Sc.i IntKind.i64 0, Sc.i IntKind.i64 (evX gs (stR gs n s k) (valM gs (stR gs n s k))), Sc.i IntKind.i64 (evX gs (stR gs n s k) (codM gs (stR gs n s k)))], bytesOk P 42 (k + 1) = true, formsL = formsL, (nxtM ((stR gs n s k), gs, n).snd.fst ((stR gs n s k), gs, n).snd.snd ((stR gs n s k), gs, n).fst).a0 = (stR gs n s (k + 1)).a0, (nxtM ((stR gs n s k), gs, n).snd.fst ((stR gs n s k), gs, n).snd.snd ((stR gs n s k), gs, n).fst).a1 = (stR gs n s (k + 1)).a1, (nxtM ((stR gs n s k), gs, n).snd.fst ((stR gs n s k), gs, n).snd.snd ((stR gs n s k), gs, n).fst).a2 = (stR gs n s (k + 1)).a2, (nxtM ((stR gs n s k), gs, n).snd.fst ((stR gs n s k), gs, n).snd.snd ((stR gs n s k), gs, n).fst).a3 = (stR gs n s (k + 1)).a3, (nxtM ((stR gs n s k), gs, n).snd.fst ((stR gs n s k), gs, n).snd.snd ((stR gs n s k), gs, n).fst).at_ = (stR gs n s (k + 1)).at_, (nxtM ((stR gs n s k), gs, n).snd.fst ((stR gs n s k), gs, n).snd.snd ((stR gs n s k), gs, n).fst).w = (stR gs n s (k + 1)).w, (nxtM ((stR gs n s k), gs, n).snd.fst ((stR gs n s k), gs, n).snd.snd ((stR gs n s k), gs, n).fst).ov = (stR gs n s (k + 1)).ov, (nxtM ((stR gs n s k), gs, n).snd.fst ((stR gs n s k), gs, n).snd.snd ((stR gs n s k), gs, n).fst).no = (stR gs n s (k + 1)).no, n = n, gs = gs, evsS gs n s k ++ [Sc.i IntKind.i64 (evX gs (stR gs n s k) (stR gs n s k).no), Sc.i IntKind.i64 (evX gs (stR gs n s k) (stR gs n s k).at_), Sc.i IntKind.i64 (evX gs (stR gs n s k) (iOp gs (stR gs n s k))), Sc.i IntKind.i64 (evX gs (stR gs n s k) (stR gs n s k).w), Sc.i IntKind.i64 0, Sc.i IntKind.i64 (evX gs (stR gs n s k) (valM gs (stR gs n s k))), Sc.i IntKind.i64 (evX gs (stR gs n s k) (codM gs (stR gs n s k)))] = evsS gs n s (k + 1), most = most, k + 1 = k + 1]) := by kernel_rfl
theorem run_most (gs : List Sc) (n : Nat) (s : C) (most : Int) (k : Nat) : roundX P ctR 100 30 none (lpAt P 11 [1,0,1,1,0,0]) (mkR gs n s most k) [.cmp false] 3 [some 0, some 1, some 2, some 3] (finR gs n s k) =
    some (Exit.exit 0, [obB false ((k : Int) < most), formsL = formsL, (stR gs n s k).a0 = (stR gs n s k).a0, (stR gs n s k).a1 = (stR gs n s k).a1, (stR gs n s k).a2 = (stR gs n s k).a2, (stR gs n s k).a3 = (stR gs n s k).a3, (stR gs n s k).at_ = (stR gs n s k).at_, (stR gs n s k).w = (stR gs n s k).w, (stR gs n s k).ov = (stR gs n s k).ov, (stR gs n s k).no = (stR gs n s k).no, n = n, gs = gs, evsS gs n s k = evsS gs n s k, k = k]) := by kernel_rfl
theorem run_stop (gs : List Sc) (n : Nat) (s : C) (most : Int) (k : Nat) : roundX P ctR 100 30 none (lpAt P 11 [1,0,1,1,0,0]) (mkR gs n s most k) [.cmp true, .cmp true] 3 [some 0, some 1, some 2, some 3] (finR gs n s k) =
    some (Exit.exit 0, [obB true ((k : Int) < most), [LV.p 1 0] = [LV.p 1 0], [Vse.Tok.glob 0 0 formsL, Vse.Tok.cells true 34 [LV.s IntKind.i64 (stR gs n s k).a0, LV.s IntKind.i64 (stR gs n s k).a1, LV.s IntKind.i64 (stR gs n s k).a2, LV.s IntKind.i64 (stR gs n s k).a3, LV.s IntKind.i64 (stR gs n s k).at_, LV.s IntKind.i64 (stR gs n s k).w, LV.sb (stR gs n s k).ov, LV.s IntKind.i64 (stR gs n s k).no, LV.so 2 n 4], Vse.Tok.vec 36 gs] = [Vse.Tok.glob 0 0 formsL, Vse.Tok.cells true 34 [LV.s IntKind.i64 (stR gs n s k).a0, LV.s IntKind.i64 (stR gs n s k).a1, LV.s IntKind.i64 (stR gs n s k).a2, LV.s IntKind.i64 (stR gs n s k).a3, LV.s IntKind.i64 (stR gs n s k).at_, LV.s IntKind.i64 (stR gs n s k).w, LV.sb (stR gs n s k).ov, LV.s IntKind.i64 (stR gs n s k).no, LV.so 2 n 4], Vse.Tok.vec 36 gs], Good gs n (stR gs n s k), obB true ((!isL gs (stR gs n s k)) = true), formsL = formsL, (nxtM ((stR gs n s k), gs, n).snd.fst ((stR gs n s k), gs, n).snd.snd ((stR gs n s k), gs, n).fst).a0 = (stR gs n s k).a0, (nxtM ((stR gs n s k), gs, n).snd.fst ((stR gs n s k), gs, n).snd.snd ((stR gs n s k), gs, n).fst).a1 = (stR gs n s k).a1, (nxtM ((stR gs n s k), gs, n).snd.fst ((stR gs n s k), gs, n).snd.snd ((stR gs n s k), gs, n).fst).a2 = (stR gs n s k).a2, (nxtM ((stR gs n s k), gs, n).snd.fst ((stR gs n s k), gs, n).snd.snd ((stR gs n s k), gs, n).fst).a3 = (stR gs n s k).a3, (nxtM ((stR gs n s k), gs, n).snd.fst ((stR gs n s k), gs, n).snd.snd ((stR gs n s k), gs, n).fst).at_ = (stR gs n s k).at_, (nxtM ((stR gs n s k), gs, n).snd.fst ((stR gs n s k), gs, n).snd.snd ((stR gs n s k), gs, n).fst).w = (stR gs n s k).w, (nxtM ((stR gs n s k), gs, n).snd.fst ((stR gs n s k), gs, n).snd.snd ((stR gs n s k), gs, n).fst).ov = (stR gs n s k).ov, (nxtM ((stR gs n s k), gs, n).snd.fst ((stR gs n s k), gs, n).snd.snd ((stR gs n s k), gs, n).fst).no = (stR gs n s k).no, n = n, gs = gs, evsS gs n s k = evsS gs n s k, k = k]) := by kernel_rfl
theorem nxtM_stay {gs : List Sc} {n : Nat} {s : C} (h : isL gs s = false) : nxtM gs n s = s := by unfold nxtM; rw [h]; rfl
def runLp (gs : List Sc) (n : Nat) (s : C) (most : Int) (J : Nat) : LoopFn := lpOf 3 [some 0, some 1, some 2, none] none (fun _ => some ()) (fun _ => mkR gs n s most 0) (.exit 0) (fun _ => finR gs n s J) [1] (fun _ => [Good gs n s, RunsTo gs n s most J, J ≤ 200])
theorem runLp_ok (gs : List Sc) (n : Nat) (s : C) (most : Int) (J : Nat) : LoopOK P none (lpAt P 11 [1,0,1,1,0,0]) (runLp gs n s most J) := lpOf_ok (fun _ hob => by
  simp only [AllP, and_true] at hob
  obtain ⟨hg, ⟨hr1, hr2⟩, hJ⟩ := hob
  have hst : ∀ k, k < J → Walk (cW P (lpAt P 11 [1,0,1,1,0,0])) none 3 (mkR gs n s most k) .normal (mkR gs n s most (k + 1)) := fun k hk => by
    have hG := stR_good hg k
    obtain ⟨hm, hs⟩ := hr1 k hk
    exact roundX_sound ctR_ok (run_step gs n s most k) (by (repeat' first | with_reducible exact AllP_nil | with_reducible refine AllP_cons ?_ ?_ | with_reducible refine And.intro ?_ ?_) <;> first | rfl | assumption | exact hG | exact room42 (by omega) | exact evsS_length k | exact obF (by rw [hs]; decide) | exact obT (by rw [hs]; rfl) | (rw [hst]; done) | (show _ = _; rw [hst]) | exact obT (by assumption) | exact obF (by assumption) | exact obT (by omega) | exact obF (by omega) | exact wrap_i64 (by omega) | (omega))
  have hlast : Walk (cW P (lpAt P 11 [1,0,1,1,0,0])) none 3 (mkR gs n s most J) (.exit 0) (finR gs n s J) := by
    by_cases hm : (J : Int) < most
    · have hG := stR_good hg J
      have hs : isL gs (stR gs n s J) = false := by rcases hr2 with h | h; exact absurd hm h; exact h
      have hst := nxtM_stay (n := n) hs
      exact roundX_sound ctR_ok (run_stop gs n s most J) (by (repeat' first | with_reducible exact AllP_nil | with_reducible refine AllP_cons ?_ ?_ | with_reducible refine And.intro ?_ ?_) <;> first | rfl | assumption | exact hG | exact room42 (by omega) | exact evsS_length k | exact obF (by rw [hs]; decide) | exact obT (by rw [hs]; rfl) | (rw [hst]; done) | (show _ = _; rw [hst]) | exact obT (by assumption) | exact obF (by assumption) | exact obT (by omega) | exact obF (by omega) | exact wrap_i64 (by omega) | (omega))
    · exact roundX_sound ctR_ok (run_most gs n s most J) (by (repeat' first | with_reducible exact AllP_nil | with_reducible refine AllP_cons ?_ ?_ | with_reducible refine And.intro ?_ ?_) <;> first | rfl | assumption | exact hG | exact room42 (by omega) | exact evsS_length k | exact obF (by rw [hs]; decide) | exact obT (by rw [hs]; rfl) | (rw [hst]; done) | (show _ = _; rw [hst]) | exact obT (by assumption) | exact obF (by assumption) | exact obT (by omega) | exact obF (by omega) | exact wrap_i64 (by omega) | (omega))
  exact loop_walk (mk := fun k : Nat => mkR gs n s most k) (by simp) J (fun _ _ => rfl) hst hlast)
/-- How many it is. -/
def runJ (gs : List Sc) (n : Nat) (s : C) (most : Int) : Nat := ((List.range most.toNat).find? fun k => !isL gs (stR gs n s k)).getD most.toNat
theorem runJ_to (gs : List Sc) (n : Nat) (s : C) (most : Int) : RunsTo gs n s most (runJ gs n s most) ∧ runJ gs n s most ≤ most.toNat := by
  unfold runJ
  cases hf : (List.range most.toNat).find? fun k => !isL gs (stR gs n s k) with
  | some k =>
    obtain ⟨h1, h2, h3⟩ := List.find?_range_eq_some.1 hf
    have h2 := List.mem_range.1 h2
    refine ⟨⟨fun j hj => ⟨?_, ?_⟩, .inr ?_⟩, ?_⟩
    · simp only [Option.getD_some] at hj; omega
    · have := h3 j hj; simpa using this
    · simpa using h1
    · simp only [Option.getD_some]; omega
  | none =>
    have h := List.find?_eq_none.1 hf
    refine ⟨⟨fun j hj => ⟨?_, ?_⟩, .inl ?_⟩, ?_⟩
    · simp only [Option.getD_none] at hj; omega
    · have := h j (List.mem_range.2 hj); simpa using this
    · simp only [Option.getD_none]; omega
    · simp
theorem run_run (gs : List Sc) (n : Nat) (s : C) (most : Int) (J : Nat) : callR P ctR 100 30 11 [.p 1 0, .s .i64 most] (mO s gs n) [.lp (runLp gs n s most J)] [some 0, some 1, some 2, some 3] (.so 3 J 7) (mO (stR gs n s J) gs n ++ [.vec 42 (evsS gs n s J)]) [1] =
    some [LoopOK P none (lpAt P 11 [1,0,1,1,0,0]) (runLp gs n s most J), formsL = formsL, s.a0 = (stR gs n s 0).a0, s.a1 = (stR gs n s 0).a1, s.a2 = (stR gs n s 0).a2, s.a3 = (stR gs n s 0).a3, s.at_ = (stR gs n s 0).at_, s.w = (stR gs n s 0).w, s.ov = (stR gs n s 0).ov, s.no = (stR gs n s 0).no, n = n, gs = gs, ([] : List Sc) = [], most = most, 0 = 0, Vse.Tok.glob 0 0 formsL = Vse.Tok.glob 0 0 formsL, Vse.Tok.vec 36 gs = Vse.Tok.vec 36 gs, Good gs n s, RunsTo gs n s most J, J ≤ 200, Vse.Tok.glob 0 0 formsL = Vse.Tok.glob 0 0 formsL, Vse.Tok.vec 36 gs = Vse.Tok.vec 36 gs, formsL = formsL, (stR gs n s J).a0 = (stR gs n s J).a0, (stR gs n s J).a1 = (stR gs n s J).a1, (stR gs n s J).a2 = (stR gs n s J).a2, (stR gs n s J).a3 = (stR gs n s J).a3, (stR gs n s J).at_ = (stR gs n s J).at_, (stR gs n s J).w = (stR gs n s J).w, (stR gs n s J).ov = (stR gs n s J).ov, (stR gs n s J).no = (stR gs n s J).no, n = n, gs = gs, evsS gs n s J = evsS gs n s J, J = J] := by kernel_rfl
theorem run_trip {gs : List Sc} {n : Nat} {s : C} {most : Int} (hG : Good gs n s) (hm : most ≤ 200) : FTrip P 11 [.p 1 0, .s .i64 most] (mO s gs n) (.so 3 (runJ gs n s most) 7) (mO (stR gs n s (runJ gs n s most)) gs n ++ [.vec 42 (evsS gs n s (runJ gs n s most))]) [1] := by
  obtain ⟨h1, h2⟩ := runJ_to gs n s most
  have h3 : runJ gs n s most ≤ 200 := by omega
  exact FTrip.callR ctR_ok (run_run gs n s most (runJ gs n s most)) (by (repeat' first | with_reducible exact AllP_nil | with_reducible refine AllP_cons ?_ ?_ | with_reducible refine And.intro ?_ ?_) <;> first | rfl | assumption | exact runLp_ok _ _ _ _ _ | exact hG | exact h1.1 | exact h1.2 | exact obT (by assumption) | exact obF (by assumption) | exact obT (by omega) | exact obF (by omega) | exact wrap_i64 (by omega) | (omega))
def runG (args : List LV) (m : List Vse.Tok) : Option (C × List Sc × Nat × Int) :=
  match args, getO m with
  | [_, .s _ t], some (s, gs, n) => some (s, gs, n, t)
  | _, _ => none
def runS : List LV → List Vse.Tok → List Ans → FOut := specT runG (fun p => [.p 1 0, .s .i64 p.2.2.2]) (fun p => mO p.1 p.2.1 p.2.2.1) (fun p => [Good p.2.1 p.2.2.1 p.1, p.2.2.2 ≤ 200]) (fun p => .so 3 (runJ p.2.1 p.2.2.1 p.1 p.2.2.2) 7)
  (fun p => mO (stR p.2.1 p.2.2.1 p.1 (runJ p.2.1 p.2.2.1 p.1 p.2.2.2)) p.2.1 p.2.2.1 ++ [.vec 42 (evsS p.2.1 p.2.2.1 p.1 (runJ p.2.1 p.2.2.1 p.1 p.2.2.2))]) [1]
theorem runS_ok : SpecOK P 11 runS := specT_ok (fun p ho => by
  simp only [AllP, and_true] at ho
  exact run_trip ho.1 ho.2)
end Go.Proofs.YtbipomifjblhpaaDoor
