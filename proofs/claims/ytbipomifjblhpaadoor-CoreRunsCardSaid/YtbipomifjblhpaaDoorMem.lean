/- What the listed table of instructions holds, cell by cell, and that the chapter's example answers true in every memory that holds it. -/
import Derived.Test.YtbipomifjblhpaaDoorAb

import Derived.Test.YtbipomifjblhpaaDoorTie
import Derived.LaidMore
import Derived.Stop.Joined
namespace Go.Proofs.YtbipomifjblhpaaDoor
open Go Go.Vse Go.ChangeShapes Go.WideShapes Go.ChangeAt Go.WideMaps Go.WideElems Go.RowKit
set_option maxRecDepth 100000
def strV (l : List UInt8) : Value := .string ⟨⟨l⟩⟩
def formV (w : List UInt8) (many a b c d e f : Int) : List Value := [strV w, .int .i64 many, .int .i64 a, .int .i64 b, .int .i64 c, .int .i64 d, .int .i64 e, .int .i64 f]
def formL (w : List UInt8) (many a b c d e f : Int) : List LV := [.v (strV w), .i .i64 many, .i .i64 a, .i .i64 b, .i .i64 c, .i .i64 d, .i .i64 e, .i .i64 f]
def formsV : List Value := formV [] 0 0 0 0 0 0 0 ++ formV [115, 101, 116] 2 0 3 0 (-2) 0 0 ++ formV [97, 100, 100] 3 0 3 0 3 0 3 ++ formV [108, 111, 97, 100] 2 0 3 0 3 0 0 ++ formV [115, 116, 111, 114, 101] 2 0 3 0 3 0 0 ++ formV [115, 119, 97, 112] 2 0 3 0 3 0 0 ++ formV [102, 101, 110, 99, 101] 0 0 0 0 0 0 0 ++ formV [119, 111, 114, 108, 100] 1 1 3 0 0 0 0 ++ formV [99, 97, 108, 108] 3 1 4 0 3 0 3 ++ formV [106, 117, 109, 112] 1 0 (-1) 0 0 0 0 ++ formV [122, 101, 114, 111] 2 0 3 0 (-1) 0 0 ++ formV [104, 97, 108, 116] 0 0 0 0 0 0 0
def formsL : List LV := formL [] 0 0 0 0 0 0 0 ++ formL [115, 101, 116] 2 0 3 0 (-2) 0 0 ++ formL [97, 100, 100] 3 0 3 0 3 0 3 ++ formL [108, 111, 97, 100] 2 0 3 0 3 0 0 ++ formL [115, 116, 111, 114, 101] 2 0 3 0 3 0 0 ++ formL [115, 119, 97, 112] 2 0 3 0 3 0 0 ++ formL [102, 101, 110, 99, 101] 0 0 0 0 0 0 0 ++ formL [119, 111, 114, 108, 100] 1 1 3 0 0 0 0 ++ formL [99, 97, 108, 108] 3 1 4 0 3 0 3 ++ formL [106, 117, 109, 112] 1 0 (-1) 0 0 0 0 ++ formL [122, 101, 114, 111] 2 0 3 0 (-1) 0 0 ++ formL [104, 97, 108, 116] 0 0 0 0 0 0 0
/-- A memory that holds the table alone. -/
def mem0 : List Vse.Tok := [.glob 0 0 formsL]
def laid1 : List (String × DataW Unit) := [("donjon/isa.forms", Rows.laid_donjon_isa_forms)]
theorem gForms : Tryd.prog.globalNamed "donjon/isa.forms" = some 0 := by kernel_rfl
theorem forms_of : ofVals formsV = some formsL := by kernel_rfl
theorem forms_block {W : World} (h : laidMetH Tryd.prog laid1 W) : ∃ T fz, W.heap[0]? = some (.cells formsV.toArray T fz) :=
  laid_block (P := Tryd.prog) (n := 6) (t := 118) (vs := formsV) (by kernel_rfl) h gForms (by kernel_rfl) (by kernel_rfl) (by kernel_rfl)
theorem sim_forms {W : World} (h : laidMetH Tryd.prog laid1 W) : Sim W (fun b => b < W.heap.size) (fun _ => (0, 0)) (memOf mem0) W := by
  obtain ⟨T, fz, hb⟩ := forms_block h
  refine sim_start (fun k t hk => ?_)
  match k, hk with
  | 0, hk =>
    simp only [mem0, List.getElem?_cons_zero, Option.some.injEq] at hk
    subst hk
    have hv := ofVals_sound (ρ := fun _ => (0, 0)) (A := al (memOf mem0)) forms_of
    exact ⟨⟨formsV, [], T, fz, by rw [List.append_nil]; exact hb, hv.1⟩, rfl, rfl, hv.2, fun g T cs e => by cases e; rfl⟩
  | k + 1, hk => simp [mem0] at hk
theorem awake_run : outC (callX (runF P noCt 100 30) (.fn 7) [] mem0 1 []) = some (.b true, [], [0], []) := by kernel_rfl
theorem awake_ok : CallOK Tryd.prog 7 [] [(0, .glob 0 0 formsL)] (.b true) [] := callOK_of noCt_ok awake_run trivial

theorem own : ownKnob Tryd.prog.godebug = none := by kernel_rfl
theorem laidOut : laidOutB Tryd.prog = true := by kernel_rfl
theorem und4 : Tryd.prog.underlying 4 = some .bool := by kernel_rfl
/-- The door's own heap meets the condition: three closed facts. -/
theorem door_met (os : Os) (args : Array Value) : laidMetH Tryd.prog laid1 ((World.doorLaid Tryd.prog 400 os).forCall (fun _ _ => 0) ⟨#[], args, []⟩).memory :=
  laidMetH_of_parts3 (fuel := 8) (laidMet_of_run' 8 (by kernel_rfl) (by kernel_rfl)) (by kernel_rfl) (by kernel_rfl)
end Go.Proofs.YtbipomifjblhpaaDoor
