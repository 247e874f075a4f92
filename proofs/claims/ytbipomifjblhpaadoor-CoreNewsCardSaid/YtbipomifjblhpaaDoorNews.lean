/- The law 'CoreNews' holds, with the table of instructions tied to the program's text: for all inputs the law's function returns true, and the inputs read as they did. -/
import Derived.Test.YtbipomifjblhpaaDoorCoreB
import Derived.Test.YtbipomifjblhpaaDoorCards
namespace Go.Proofs.YtbipomifjblhpaaDoor
open Go Go.Vse Go.ChangeShapes Go.WideShapes Go.ChangeAt Go.WideMaps Go.WideElems Go.RowKit
set_option maxRecDepth 100000
set_option maxHeartbeats 4000000
def ct7 : Ctrs := fun f => if f = 7 then some .dark else none
theorem ct7_ok : CtOK P ct7 := fun f s h => by
  unfold ct7 at h
  split at h <;> cases h
theorem news_far (fs : List Sc) (o n c : Nat) (no w : Int) : outF (runF P ctW 100 30 (.fn 3) [.s .i64 no, .s .i64 w, .ss 1 o n c 4] (mCk fs) [.cmp true, .call (.b true) [] [0]]) =
    some (LV.b true, [obB true ((60 : Int) < (n : Int)), CallOK P 7 [] [(0, Vse.Tok.glob 0 0 formsL)] (LV.b true) []]) := by kernel_rfl
theorem news_bad0 (fs : List Sc) (o n c : Nat) (no w : Int) : outF (runF P ctW 100 30 (.fn 3) [.s .i64 no, .s .i64 w, .ss 1 o n c 4] (mCk fs) [.cmp false, .cmp false, .cmp true, .cmp true, .call (.b true) [] [0]]) =
    some (LV.b true, [obB false ((60 : Int) < (n : Int)), [LV.s IntKind.i64 no, LV.s IntKind.i64 w, LV.ss 1 o n c 4] = [LV.s IntKind.i64 no, LV.s IntKind.i64 w, LV.ss 1 o n c 4], [Vse.Tok.glob 0 0 formsL, Vse.Tok.fl false 36 fs] = [Vse.Tok.glob 0 0 formsL, Vse.Tok.fl false 36 fs], obB false (newE no w (List.drop o fs) n = (0 : Int)), isI (List.drop o fs), o ≤ fs.length, (List.drop o fs).length = 4 * n, [Vse.Tok.glob 0 0 formsL, Vse.Tok.fl false 36 fs] = [Vse.Tok.glob 0 0 formsL, Vse.Tok.fl false 36 fs], isI (List.drop o fs), (List.drop o fs).length = 4 * n, obB true (no < (0 : Int)), obB true (newE no w (List.drop o fs) n = (10 : Int)), CallOK P 7 [] [(0, Vse.Tok.glob 0 0 formsL)] (LV.b true) []]) := by kernel_rfl
theorem news_bad1 (fs : List Sc) (o n c : Nat) (no w : Int) : outF (runF P ctW 100 30 (.fn 3) [.s .i64 no, .s .i64 w, .ss 1 o n c 4] (mCk fs) [.cmp false, .cmp false, .cmp false, .cmp true, .cmp true, .call (.b true) [] [0]]) =
    some (LV.b true, [obB false ((60 : Int) < (n : Int)), [LV.s IntKind.i64 no, LV.s IntKind.i64 w, LV.ss 1 o n c 4] = [LV.s IntKind.i64 no, LV.s IntKind.i64 w, LV.ss 1 o n c 4], [Vse.Tok.glob 0 0 formsL, Vse.Tok.fl false 36 fs] = [Vse.Tok.glob 0 0 formsL, Vse.Tok.fl false 36 fs], obB false (newE no w (List.drop o fs) n = (0 : Int)), isI (List.drop o fs), o ≤ fs.length, (List.drop o fs).length = 4 * n, [Vse.Tok.glob 0 0 formsL, Vse.Tok.fl false 36 fs] = [Vse.Tok.glob 0 0 formsL, Vse.Tok.fl false 36 fs], isI (List.drop o fs), (List.drop o fs).length = 4 * n, obB false (no < (0 : Int)), obB true ((3 : Int) < no), obB true (newE no w (List.drop o fs) n = (10 : Int)), CallOK P 7 [] [(0, Vse.Tok.glob 0 0 formsL)] (LV.b true) []]) := by kernel_rfl
theorem news_bad2 (fs : List Sc) (o n c : Nat) (no w : Int) : outF (runF P ctW 100 30 (.fn 3) [.s .i64 no, .s .i64 w, .ss 1 o n c 4] (mCk fs) [.cmp false, .cmp false, .cmp false, .cmp false, .cmp true, .cmp true, .call (.b true) [] [0]]) =
    some (LV.b true, [obB false ((60 : Int) < (n : Int)), [LV.s IntKind.i64 no, LV.s IntKind.i64 w, LV.ss 1 o n c 4] = [LV.s IntKind.i64 no, LV.s IntKind.i64 w, LV.ss 1 o n c 4], [Vse.Tok.glob 0 0 formsL, Vse.Tok.fl false 36 fs] = [Vse.Tok.glob 0 0 formsL, Vse.Tok.fl false 36 fs], obB false (newE no w (List.drop o fs) n = (0 : Int)), isI (List.drop o fs), o ≤ fs.length, (List.drop o fs).length = 4 * n, [Vse.Tok.glob 0 0 formsL, Vse.Tok.fl false 36 fs] = [Vse.Tok.glob 0 0 formsL, Vse.Tok.fl false 36 fs], isI (List.drop o fs), (List.drop o fs).length = 4 * n, obB false (no < (0 : Int)), obB false ((3 : Int) < no), obB true (w < (0 : Int)), obB true (newE no w (List.drop o fs) n = (10 : Int)), CallOK P 7 [] [(0, Vse.Tok.glob 0 0 formsL)] (LV.b true) []]) := by kernel_rfl
theorem news_bad3 (fs : List Sc) (o n c : Nat) (no w : Int) : outF (runF P ctW 100 30 (.fn 3) [.s .i64 no, .s .i64 w, .ss 1 o n c 4] (mCk fs) [.cmp false, .cmp false, .cmp false, .cmp false, .cmp false, .cmp true, .cmp true, .call (.b true) [] [0]]) =
    some (LV.b true, [obB false ((60 : Int) < (n : Int)), [LV.s IntKind.i64 no, LV.s IntKind.i64 w, LV.ss 1 o n c 4] = [LV.s IntKind.i64 no, LV.s IntKind.i64 w, LV.ss 1 o n c 4], [Vse.Tok.glob 0 0 formsL, Vse.Tok.fl false 36 fs] = [Vse.Tok.glob 0 0 formsL, Vse.Tok.fl false 36 fs], obB false (newE no w (List.drop o fs) n = (0 : Int)), isI (List.drop o fs), o ≤ fs.length, (List.drop o fs).length = 4 * n, [Vse.Tok.glob 0 0 formsL, Vse.Tok.fl false 36 fs] = [Vse.Tok.glob 0 0 formsL, Vse.Tok.fl false 36 fs], isI (List.drop o fs), (List.drop o fs).length = 4 * n, obB false (no < (0 : Int)), obB false ((3 : Int) < no), obB false (w < (0 : Int)), obB true ((3 : Int) < w), obB true (newE no w (List.drop o fs) n = (10 : Int)), CallOK P 7 [] [(0, Vse.Tok.glob 0 0 formsL)] (LV.b true) []]) := by kernel_rfl
theorem news_badc (fs : List Sc) (o n c : Nat) (no w : Int) : outF (runF P ctW 100 30 (.fn 3) [.s .i64 no, .s .i64 w, .ss 1 o n c 4] (mCk fs) [.cmp false, .cmp false, .cmp false, .cmp false, .cmp false, .cmp false, .cmp true, .cmp true, .call (.b true) [] [0]]) =
    some (LV.b true, [obB false ((60 : Int) < (n : Int)), [LV.s IntKind.i64 no, LV.s IntKind.i64 w, LV.ss 1 o n c 4] = [LV.s IntKind.i64 no, LV.s IntKind.i64 w, LV.ss 1 o n c 4], [Vse.Tok.glob 0 0 formsL, Vse.Tok.fl false 36 fs] = [Vse.Tok.glob 0 0 formsL, Vse.Tok.fl false 36 fs], obB false (newE no w (List.drop o fs) n = (0 : Int)), isI (List.drop o fs), o ≤ fs.length, (List.drop o fs).length = 4 * n, [Vse.Tok.glob 0 0 formsL, Vse.Tok.fl false 36 fs] = [Vse.Tok.glob 0 0 formsL, Vse.Tok.fl false 36 fs], isI (List.drop o fs), (List.drop o fs).length = 4 * n, obB false (no < (0 : Int)), obB false ((3 : Int) < no), obB false (w < (0 : Int)), obB false ((3 : Int) < w), obB true (chkE (List.drop o fs) n ≠ (0 : Int)), obB true (newE no w (List.drop o fs) n = chkE (List.drop o fs) n), CallOK P 7 [] [(0, Vse.Tok.glob 0 0 formsL)] (LV.b true) []]) := by kernel_rfl
theorem news_good_e (fs : List Sc) (o n c : Nat) (no w : Int) : outF (runF P ctW 100 30 (.fn 3) [.s .i64 no, .s .i64 w, .ss 1 o n c 4] (mCk fs) [.cmp false, .cmp true, .cmp false, .cmp false, .cmp false, .cmp false, .cmp false, .cmp true, .cmp true, .cmp true, .cmp true, .cmp true, .cmp true, .cmp true, .cmp true, .call (.b true) [] [0]]) =
    some (LV.b true, [obB false ((60 : Int) < (n : Int)), [LV.s IntKind.i64 no, LV.s IntKind.i64 w, LV.ss 1 o n c 4] = [LV.s IntKind.i64 no, LV.s IntKind.i64 w, LV.ss 1 o n c 4], [Vse.Tok.glob 0 0 formsL, Vse.Tok.fl false 36 fs] = [Vse.Tok.glob 0 0 formsL, Vse.Tok.fl false 36 fs], obB true (newE no w (List.drop o fs) n = (0 : Int)), isI (List.drop o fs), o ≤ fs.length, (List.drop o fs).length = 4 * n, [Vse.Tok.glob 0 0 formsL, Vse.Tok.fl false 36 fs] = [Vse.Tok.glob 0 0 formsL, Vse.Tok.fl false 36 fs], isI (List.drop o fs), (List.drop o fs).length = 4 * n, obB false (no < (0 : Int)), obB false ((3 : Int) < no), obB false (w < (0 : Int)), obB false ((3 : Int) < w), obB false (chkE (List.drop o fs) n ≠ (0 : Int)), obB true ((0 : Int) = (0 : Int)), obB true ((0 : Int) = (0 : Int)), obB true ((0 : Int) = (0 : Int)), obB true ((0 : Int) = (0 : Int)), obB true ((0 : Int) = (0 : Int)), obB true (w = w), obB true ((n : Int) = (0 : Int)), obB true (overM (List.drop o fs) n 0 = true), CallOK P 7 [] [(0, Vse.Tok.glob 0 0 formsL)] (LV.b true) []]) := by kernel_rfl
theorem news_good_h (fs : List Sc) (o n c : Nat) (no w : Int) : outF (runF P ctW 100 30 (.fn 3) [.s .i64 no, .s .i64 w, .ss 1 o n c 4] (mCk fs) [.cmp false, .cmp true, .cmp false, .cmp false, .cmp false, .cmp false, .cmp false, .cmp true, .cmp true, .cmp true, .cmp true, .cmp true, .cmp true, .cmp false, .cmp true, .cmp true, .call (.b true) [] [0], .ld [.s .i64 (sA (fs.drop o) 0)]]) =
    some (LV.b true, [obB false ((60 : Int) < (n : Int)), [LV.s IntKind.i64 no, LV.s IntKind.i64 w, LV.ss 1 o n c 4] = [LV.s IntKind.i64 no, LV.s IntKind.i64 w, LV.ss 1 o n c 4], [Vse.Tok.glob 0 0 formsL, Vse.Tok.fl false 36 fs] = [Vse.Tok.glob 0 0 formsL, Vse.Tok.fl false 36 fs], obB true (newE no w (List.drop o fs) n = (0 : Int)), isI (List.drop o fs), o ≤ fs.length, (List.drop o fs).length = 4 * n, [Vse.Tok.glob 0 0 formsL, Vse.Tok.fl false 36 fs] = [Vse.Tok.glob 0 0 formsL, Vse.Tok.fl false 36 fs], isI (List.drop o fs), (List.drop o fs).length = 4 * n, obB false (no < (0 : Int)), obB false ((3 : Int) < no), obB false (w < (0 : Int)), obB false ((3 : Int) < w), obB false (chkE (List.drop o fs) n ≠ (0 : Int)), obB true ((0 : Int) = (0 : Int)), obB true ((0 : Int) = (0 : Int)), obB true ((0 : Int) = (0 : Int)), obB true ((0 : Int) = (0 : Int)), obB true ((0 : Int) = (0 : Int)), obB true (w = w), obB false ((n : Int) = (0 : Int)), (0 : Int) ≤ (0 : Int) ∧ (0 : Int) < (n : Int), Option.map Sc.lv fs[o + 0 + 0]? = some (LV.s IntKind.i64 (sA (List.drop o fs) 0)), obB true (sA (List.drop o fs) 0 = (11 : Int)), obB true (overM (List.drop o fs) n 0 = true), CallOK P 7 [] [(0, Vse.Tok.glob 0 0 formsL)] (LV.b true) []]) := by kernel_rfl
theorem news_good_n (fs : List Sc) (o n c : Nat) (no w : Int) : outF (runF P ctW 100 30 (.fn 3) [.s .i64 no, .s .i64 w, .ss 1 o n c 4] (mCk fs) [.cmp false, .cmp true, .cmp false, .cmp false, .cmp false, .cmp false, .cmp false, .cmp true, .cmp true, .cmp true, .cmp true, .cmp true, .cmp true, .cmp false, .cmp false, .cmp true, .call (.b true) [] [0], .ld [.s .i64 (sA (fs.drop o) 0)]]) =
    some (LV.b true, [obB false ((60 : Int) < (n : Int)), [LV.s IntKind.i64 no, LV.s IntKind.i64 w, LV.ss 1 o n c 4] = [LV.s IntKind.i64 no, LV.s IntKind.i64 w, LV.ss 1 o n c 4], [Vse.Tok.glob 0 0 formsL, Vse.Tok.fl false 36 fs] = [Vse.Tok.glob 0 0 formsL, Vse.Tok.fl false 36 fs], obB true (newE no w (List.drop o fs) n = (0 : Int)), isI (List.drop o fs), o ≤ fs.length, (List.drop o fs).length = 4 * n, [Vse.Tok.glob 0 0 formsL, Vse.Tok.fl false 36 fs] = [Vse.Tok.glob 0 0 formsL, Vse.Tok.fl false 36 fs], isI (List.drop o fs), (List.drop o fs).length = 4 * n, obB false (no < (0 : Int)), obB false ((3 : Int) < no), obB false (w < (0 : Int)), obB false ((3 : Int) < w), obB false (chkE (List.drop o fs) n ≠ (0 : Int)), obB true ((0 : Int) = (0 : Int)), obB true ((0 : Int) = (0 : Int)), obB true ((0 : Int) = (0 : Int)), obB true ((0 : Int) = (0 : Int)), obB true ((0 : Int) = (0 : Int)), obB true (w = w), obB false ((n : Int) = (0 : Int)), (0 : Int) ≤ (0 : Int) ∧ (0 : Int) < (n : Int), Option.map Sc.lv fs[o + 0 + 0]? = some (LV.s IntKind.i64 (sA (List.drop o fs) 0)), obB false (sA (List.drop o fs) 0 = (11 : Int)), obB true (overM (List.drop o fs) n 0 = false), CallOK P 7 [] [(0, Vse.Tok.glob 0 0 formsL)] (LV.b true) []]) := by kernel_rfl
theorem newsn_bad0 (no w : Int) : outF (runF P ct7 100 30 (.fn 3) [.s .i64 no, .s .i64 w, .n0] mem0 [.cmp true, .cmp true, .call (.b true) [] [0]]) =
    some (LV.b true, [obB true (no < (0 : Int)), obB true (no < (0 : Int)), CallOK P 7 [] [(0, Vse.Tok.glob 0 0 formsL)] (LV.b true) []]) := by kernel_rfl
theorem newsn_bad1 (no w : Int) : outF (runF P ct7 100 30 (.fn 3) [.s .i64 no, .s .i64 w, .n0] mem0 [.cmp false, .cmp true, .cmp false, .cmp true, .call (.b true) [] [0]]) =
    some (LV.b true, [obB false (no < (0 : Int)), obB true ((4 : Int) ≤ no), obB false (no < (0 : Int)), obB true ((3 : Int) < no), CallOK P 7 [] [(0, Vse.Tok.glob 0 0 formsL)] (LV.b true) []]) := by kernel_rfl
theorem newsn_bad2 (no w : Int) : outF (runF P ct7 100 30 (.fn 3) [.s .i64 no, .s .i64 w, .n0] mem0 [.cmp false, .cmp false, .cmp true, .cmp false, .cmp false, .cmp true, .call (.b true) [] [0]]) =
    some (LV.b true, [obB false (no < (0 : Int)), obB false ((4 : Int) ≤ no), obB true (w < (0 : Int)), obB false (no < (0 : Int)), obB false ((3 : Int) < no), obB true (w < (0 : Int)), CallOK P 7 [] [(0, Vse.Tok.glob 0 0 formsL)] (LV.b true) []]) := by kernel_rfl
theorem newsn_bad3 (no w : Int) : outF (runF P ct7 100 30 (.fn 3) [.s .i64 no, .s .i64 w, .n0] mem0 [.cmp false, .cmp false, .cmp false, .cmp true, .cmp false, .cmp false, .cmp false, .cmp true, .call (.b true) [] [0]]) =
    some (LV.b true, [obB false (no < (0 : Int)), obB false ((4 : Int) ≤ no), obB false (w < (0 : Int)), obB true ((3 : Int) < w), obB false (no < (0 : Int)), obB false ((3 : Int) < no), obB false (w < (0 : Int)), obB true ((3 : Int) < w), CallOK P 7 [] [(0, Vse.Tok.glob 0 0 formsL)] (LV.b true) []]) := by kernel_rfl
theorem newsn_good (no w : Int) : outF (runF P ct7 100 30 (.fn 3) [.s .i64 no, .s .i64 w, .n0] mem0 [.cmp false, .cmp false, .cmp false, .cmp false, .cmp false, .cmp false, .cmp false, .cmp false, .cmp true, .cmp true, .cmp true, .call (.b true) [] [0]]) =
    some (LV.b true, [obB false (no < (0 : Int)), obB false ((4 : Int) ≤ no), obB false (w < (0 : Int)), obB false ((3 : Int) < w), obB false (no < (0 : Int)), obB false ((3 : Int) < no), obB false (w < (0 : Int)), obB false ((3 : Int) < w), obB true (w = w), CallOK P 7 [] [(0, Vse.Tok.glob 0 0 formsL)] (LV.b true) []]) := by kernel_rfl
theorem newE_chk {no w : Int} {gs : List Sc} {n : Nat} (h : ¬ (no < 0 ∨ 4 ≤ no ∨ w < 0 ∨ 3 < w)) : newE no w gs n = chkE gs n := by unfold newE; rw [if_neg h]
theorem newE_bad {no w : Int} {gs : List Sc} {n : Nat} (h : no < 0 ∨ 4 ≤ no ∨ w < 0 ∨ 3 < w) : newE no w gs n = 10 := by unfold newE; rw [if_pos h]
theorem overM_0 {gs : List Sc} {n : Nat} : overM gs n 0 = (decide (n = 0) || decide (sA gs 0 = 11)) := by
  simp only [overM, Int.mul_zero]
  congr 1
  simp
theorem sim_ck {W : World} (h : laidMetH Tryd.prog laid1 W) {fs : List Sc} {b sz : Nat} (ht : ∀ ρ : Env, TR ρ sz (.fl false 36 fs) (W.heap[b]?)) : Sim W (fun b => b < W.heap.size) (fun k => if k = 1 then (b, sz) else (0, 0)) (memOf (mCk fs)) W := by
  obtain ⟨T, fz, hb⟩ := forms_block h
  refine sim_start (fun k t hk => ?_)
  match k, hk with
  | 0, hk =>
    simp only [List.getElem?_cons_zero, Option.some.injEq] at hk
    subst hk
    have hv := ofVals_sound (ρ := fun k => if k = 1 then (b, sz) else (0, 0)) (A := al (memOf (mCk fs))) forms_of
    exact ⟨⟨formsV, [], T, fz, by rw [List.append_nil]; exact hb, hv.1⟩, rfl, rfl, hv.2, fun g T cs e => by cases e; rfl⟩
  | 1, hk =>
    simp only [List.getElem?_cons_succ, List.getElem?_cons_zero, Option.some.injEq] at hk
    subst hk
    exact ⟨ht _, rfl, rfl, trivial, fun g T cs e => by cases e⟩
  | k + 2, hk => simp at hk
theorem news_walk (no w : Int) (fs : List Sc) (o n b sz : Nat) {v : Value} {W : World} (h : laidMetH Tryd.prog laid1 W) (ht : ∀ ρ : Env, TR ρ sz (.fl false 36 fs) (W.heap[b]?)) (hs : ∀ (ρ : Env) k, ρ k = (b, sz) → VR ρ (.ss k o n n 4) v)
    (hI : isI (fs.drop o)) (ho : o ≤ fs.length) (hl : (fs.drop o).length = 4 * n) : Calls Tryd.prog 3 #[.int .i64 no, .int .i64 w, v] W (TrueBelow W) := by
  have hv : VRs (fun k => if k = 1 then (b, sz) else (0, 0)) [.s .i64 no, .s .i64 w, .ss 1 o n n 4] [.int .i64 no, .int .i64 w, v] := by
    simp only [VRs]
    exact ⟨_, _, rfl, by simp only [VR], _, _, rfl, by simp only [VR], _, _, rfl, hs _ 1 rfl, rfl⟩
  have hw : wfL (al (memOf (mCk fs))) [.s .i64 no, .s .i64 w, .ss 1 o n n 4] := by simp [wfL, LV.wf, al, memOf, Vse.Tok.isFree]
  have fin : ∀ {an : List Ans} {ob : List Prop}, outF (runF P ctW 100 30 (.fn 3) [.s .i64 no, .s .i64 w, .ss 1 o n n 4] (mCk fs) an) = some (.b true, ob) → AllP ob → Calls Tryd.prog 3 #[.int .i64 no, .int .i64 w, v] W (TrueBelow W) :=
    fun hr hob => calls_of_out ctW_ok hr hob (sim_ck h ht) hv hw
  by_cases h60 : 60 < n
  · exact fin (news_far fs o n n no w) (by (repeat' first | exact trivial | refine And.intro ?_ ?_) <;> first | rfl | assumption | exact awake_ok | exact isI_drop hI _ | (unfold newE; rw [if_pos (by omega)]) | (apply obT; unfold newE; rw [if_pos (by omega)]) | exact obF hE | exact obT hE | exact obT (newE_chk (by omega)) | exact obT rfl | exact obT (by assumption) | exact obF (by assumption) | exact obT (by omega) | exact obF (by omega) | exact wrap_i64 (by omega) | (omega))
  by_cases hr : no < 0 ∨ 4 ≤ no ∨ w < 0 ∨ 3 < w
  · have hE : newE no w (fs.drop o) n = 10 := newE_bad hr
    have hE0 : ¬ newE no w (fs.drop o) n = 0 := by rw [hE]; decide
    by_cases h0 : no < 0
    · exact fin (news_bad0 fs o n n no w) (by (repeat' first | exact trivial | refine And.intro ?_ ?_) <;> first | rfl | assumption | exact awake_ok | exact obF hE0 | exact obT (by assumption) | exact obF (by assumption) | exact obT (by omega) | exact obF (by omega) | exact wrap_i64 (by omega) | (omega))
    by_cases h1 : 3 < no
    · exact fin (news_bad1 fs o n n no w) (by (repeat' first | exact trivial | refine And.intro ?_ ?_) <;> first | rfl | assumption | exact awake_ok | exact obF hE0 | exact obT (by assumption) | exact obF (by assumption) | exact obT (by omega) | exact obF (by omega) | exact wrap_i64 (by omega) | (omega))
    by_cases h2 : w < 0
    · exact fin (news_bad2 fs o n n no w) (by (repeat' first | exact trivial | refine And.intro ?_ ?_) <;> first | rfl | assumption | exact awake_ok | exact obF hE0 | exact obT (by assumption) | exact obF (by assumption) | exact obT (by omega) | exact obF (by omega) | exact wrap_i64 (by omega) | (omega))
    · exact fin (news_bad3 fs o n n no w) (by (repeat' first | exact trivial | refine And.intro ?_ ?_) <;> first | rfl | assumption | exact awake_ok | exact obF hE0 | exact obT (by assumption) | exact obF (by assumption) | exact obT (by omega) | exact obF (by omega) | exact wrap_i64 (by omega) | (omega))
  have hE := newE_chk (gs := fs.drop o) (n := n) hr
  by_cases hc : chkE (fs.drop o) n = 0
  · have hE0 : newE no w (fs.drop o) n = 0 := hE.trans hc
    by_cases hn : n = 0
    · exact fin (news_good_e fs o n n no w) (by (repeat' first | exact trivial | refine And.intro ?_ ?_) <;> first | rfl | assumption | exact awake_ok | exact obT rfl | exact obF (fun h => h hc) | (apply obT; rw [overM_0]; simp [hn]) | exact obT (by assumption) | exact obF (by assumption) | exact obT (by omega) | exact obF (by omega) | exact wrap_i64 (by omega) | (omega))
    have hl0 : Option.map Sc.lv fs[o + 0 + 0]? = some (LV.s IntKind.i64 (sA (List.drop o fs) 0)) := by
      have := sA_nat hI (j := 0) (by omega)
      simpa using this
    by_cases hh : sA (fs.drop o) 0 = 11
    · exact fin (news_good_h fs o n n no w) (by (repeat' first | exact trivial | refine And.intro ?_ ?_) <;> first | rfl | assumption | exact awake_ok | exact hl0 | exact obT rfl | exact obF (fun h => h hc) | (apply obT; rw [overM_0]; simp [hh]) | exact obT (by assumption) | exact obF (by assumption) | exact obT (by omega) | exact obF (by omega) | exact wrap_i64 (by omega) | (omega))
    · exact fin (news_good_n fs o n n no w) (by (repeat' first | exact trivial | refine And.intro ?_ ?_) <;> first | rfl | assumption | exact awake_ok | exact hl0 | exact obT rfl | exact obF (fun h => h hc) | (apply obT; rw [overM_0]; simp [hh, hn]) | exact obT (by assumption) | exact obF (by assumption) | exact obT (by omega) | exact obF (by omega) | exact wrap_i64 (by omega) | (omega))
  · have hE0 : ¬ newE no w (fs.drop o) n = 0 := by rw [hE]; exact hc
    exact fin (news_badc fs o n n no w) (by (repeat' first | exact trivial | refine And.intro ?_ ?_) <;> first | rfl | assumption | exact awake_ok | exact obF hE0 | exact obT hc | exact obT (by assumption) | exact obF (by assumption) | exact obT (by omega) | exact obF (by omega) | exact wrap_i64 (by omega) | (omega))
theorem news_walk0 (no w : Int) {W : World} (h : laidMetH Tryd.prog laid1 W) : Calls Tryd.prog 3 #[.int .i64 no, .int .i64 w, .slice none 0 0] W (TrueBelow W) := by
  have hv : VRs (fun _ => (0, 0)) [.s .i64 no, .s .i64 w, .n0] [.int .i64 no, .int .i64 w, .slice none 0 0] := by
    simp only [VRs, VR]
    exact ⟨_, _, rfl, rfl, _, _, rfl, rfl, _, _, rfl, rfl, rfl⟩
  have hw : wfL (al (memOf mem0)) [.s .i64 no, .s .i64 w, .n0] := by simp [wfL, LV.wf]
  have fin : ∀ {an : List Ans} {ob : List Prop}, outF (runF P ct7 100 30 (.fn 3) [.s .i64 no, .s .i64 w, .n0] mem0 an) = some (.b true, ob) → AllP ob → Calls Tryd.prog 3 #[.int .i64 no, .int .i64 w, .slice none 0 0] W (TrueBelow W) :=
    fun hr hob => calls_of_out ct7_ok hr hob (sim_forms h) hv hw
  by_cases h0 : no < 0
  · exact fin (newsn_bad0 no w) (by (repeat' first | exact trivial | refine And.intro ?_ ?_) <;> first | rfl | assumption | exact awake_ok | exact obT (by assumption) | exact obF (by assumption) | exact obT (by omega) | exact obF (by omega) | exact wrap_i64 (by omega) | (omega))
  by_cases h1 : 3 < no
  · exact fin (newsn_bad1 no w) (by (repeat' first | exact trivial | refine And.intro ?_ ?_) <;> first | rfl | assumption | exact awake_ok | exact obT (by assumption) | exact obF (by assumption) | exact obT (by omega) | exact obF (by omega) | exact wrap_i64 (by omega) | (omega))
  by_cases h2 : w < 0
  · exact fin (newsn_bad2 no w) (by (repeat' first | exact trivial | refine And.intro ?_ ?_) <;> first | rfl | assumption | exact awake_ok | exact obT (by assumption) | exact obF (by assumption) | exact obT (by omega) | exact obF (by omega) | exact wrap_i64 (by omega) | (omega))
  by_cases h3 : 3 < w
  · exact fin (newsn_bad3 no w) (by (repeat' first | exact trivial | refine And.intro ?_ ?_) <;> first | rfl | assumption | exact awake_ok | exact obT (by assumption) | exact obF (by assumption) | exact obT (by omega) | exact obF (by omega) | exact wrap_i64 (by omega) | (omega))
  · exact fin (newsn_good no w) (by (repeat' first | exact trivial | refine And.intro ?_ ?_) <;> first | rfl | assumption | exact awake_ok | exact obT rfl | exact obT (by assumption) | exact obF (by assumption) | exact obT (by omega) | exact obF (by omega) | exact wrap_i64 (by omega) | (omega))
theorem coreNews_lifted (os : Os) (started : os.Started) (H : Type) (enc : TypeId × Value → H) :
    ReturnsInHanded {} Tryd.checked os 3 .any (fun w args => (Rows.coreNewsSpec.pre enc Tryd.prog Tryd.f3 [] false w args ∧ laidMetH Tryd.prog laid1 w) ∧ sizedMet enc Tryd.prog Tryd.f3 (OpenSpec.ofChange Rows.coreNewsSpec) false w args)
      (Rows.coreNewsSpec.post enc Tryd.prog Tryd.f3 false true false false) := by
  refine returnsInHanded_of_change_and (C := Tryd.checked) (X := fun w _ => laidMetH Tryd.prog laid1 w) (fun _ _ _ hh h => h.of_heap hh) own started (by kernel_rfl) Tryd.func3
    (ChangeSpec.witness_shaped (enc := enc) (C := Tryd.checked) (os := os) (X := fun w _ => laidMetH Tryd.prog laid1 w) false (World.doorLaid Tryd.prog 400 os) #[.int .i64 0, .int .i64 0, .slice none 0 0] 8 rfl (World.shaped_of_RefB (by kernel_rfl) (by kernel_rfl)) (by kernel_rfl) (by kernel_rfl) (by kernel_rfl) (door_met os _)) ?_
  intro W base args ds gs before hval0 hW _ _ hL _
  have hval : ∀ (j : Nat) t v, Tryd.f3.params[j]? = some t → args[j]? = some v → Value.okWide Tryd.prog W .any base t v := hval0
  have hW' := hW
  obtain ⟨p, q, hA0, hV, rfl, hfz, hnd⟩ := hW
  have hA : DataW.TrodAll enc Tryd.prog W 0 (fun _ => true) true Tryd.f3.params.toList args.toList ds p := hA0
  rw [Tryd.params3] at hA hval
  obtain ⟨v0, v1, v2, d0, d1, d2, p0, p1, p2, rfl, rfl, rfl, h0, h1, h2⟩ := trodAll_three hA
  obtain ⟨a, rfl, rfl, rfl, _⟩ := open_int Tryd.underlying3 (hval 0 3 v0 rfl rfl) h0
  obtain ⟨b, rfl, rfl, rfl, _⟩ := open_int Tryd.underlying3 (hval 1 3 v1 rfl rfl) h1
  have hcalls : Calls Tryd.prog 3 #[.int .i64 a, .int .i64 b, v2] W (TrueBelow W) := by
    rcases open_flatS (c := 4) (show Tryd.prog.underlying 22 = some (.slice 36) by kernel_rfl) (show flatK Tryd.prog 3 36 = some [.int .i64, .int .i64, .int .i64, .int .i64] by kernel_rfl) (show Tryd.prog.cellsOf 36 = 4 by kernel_rfl) rfl (by omega) (hval 2 22 v2 rfl rfl) h2 with rfl | ⟨bb, sz, len, pre, fs, _, hs, ht, hl, hk⟩
    · exact news_walk0 a b hL
    · obtain ⟨xs, e1, e2, _⟩ := FKs_ints (repK_all rfl len) hk
      have hd : (scsOf (pre ++ fs)).drop pre.length = ints xs := by
        rw [← e1]; simp [scsOf, ← List.map_drop]
      refine news_walk a b (scsOf (pre ++ fs)) pre.length len bb sz hL ht hs ?_ ?_ ?_
      · rw [hd]; exact isI_ints xs
      · rw [scsOf_length]; simp
      · rw [hd, ints_length, e2, hl, Nat.mul_comm]
  refine hcalls.mono fun e W' ⟨he, hb⟩ => ?_
  subst he
  exact ⟨_, rfl, law_post laidOut hW' hb (by kernel_rfl) (by kernel_rfl) und4 rfl (by obtain ⟨rfl, rfl⟩ := trodVars_none hV; rfl)⟩

theorem coreNews_holds : Rows.CoreNewsSaid :=
  OpenClaim.holds_of_wide 3 Tryd.f3 rfl rfl rfl rfl rfl rfl rfl ⟨rfl, rfl, rfl, rfl, rfl⟩ rfl rfl rfl rfl rfl (by kernel_rfl) Tryd.func3 (by kernel_rfl)
    (of_decide_eq_true (by kernel_rfl)) (by unfold Func.isWrapper; first | (rw [if_pos (by decide +kernel)]; kernel_rfl) | (rw [if_neg (by decide +kernel)]; exact ⟨rfl, rfl⟩))
    (fun os started H enc _ => coreNews_lifted os started H enc)

theorem coreNewsCard_holds : Rows.CoreNewsCardSaid :=
  Claim7.holds_tied_plain_at .later [] [.data] true (true, "96075cebb3ee1fa3c1f76df54df19b3c44f9723fdf74a5a8101d6ab1f0c04086") false
    coreNews_holds (fun _ h => by cases h) (by kernel_rfl) (fun _ h => by cases h) coreNews_row_tie rfl ⟨rfl, rfl⟩ (by kernel_rfl) rfl
    (fun f fn hf hfn => by
      obtain rfl : f = 3 := Option.some.inj ((show Tryd.prog.funcNamed "donjon/donjonlaw15.CoreNews" = some 3 by kernel_rfl).symm.trans hf) |>.symm
      obtain rfl : fn = Tryd.f3 := (Option.some.inj (Tryd.func3.symm.trans hfn)).symm
      exact ⟨by kernel_rfl, fun j t ht => by
        rw [Tryd.params3] at ht
        have hm : t ∈ [3, 3, 22] := by simpa using Array.mem_of_getElem? ht
        have hall : ([3, 3, 22].all fun u => !Tryd.prog.wantsStandIn u) = true := by kernel_rfl
        exact (show Tryd.prog.wantsStandIn t = false by simpa using List.all_eq_true.1 hall t hm)⟩)
    (by kernel_rfl)
#print axioms coreNewsCard_holds
end Go.Proofs.YtbipomifjblhpaaDoor
