/-
  NARROWER THAN 'FOR EVERY INPUT', by the rows' own cells (each row's printed sentence says how): CoreNews: laid · CoreRuns: laid · CoreNil: laid · CorePlaces: laid.
  DERIVED. THE GIVEN ROWS OF THIS SEAT. 4 by the template 'for every input the law returns true; each argument reads behind the call as it read before'; 0 by the template 'total and deterministic' (their statements: YtbipomifjblhpaaDoorTotals.lean).
  GIVEN WITH THE SEED: the statements are not yours to turn. If you find one false, say at which input.
  Laid BY PROGRAM, IN A SANDBOX (cutbox-rows.mjs): the forced cells as the released guide's own fill.sh prints them over the translation b69170148ab6cc2a… (all of the seat's roots in one cut). By AI agents, Wed Nov 11 2026. No macro, syntax, notation, axiom, sorry.
-/
import Derived.Test.YtbipomifjblhpaaDoorChecked
import GoSem.Claim
import GoSem.ClaimJoined
import GoSem.ClaimMapViews
import Derived.JoinedTies
import Derived.KernelRfl
namespace Go.Proofs.YtbipomifjblhpaaDoor
/- THE CELL 'sum', in the pinned program and in every row, IS THE sha256 OF THE DUMP (.gsa) THAT YtbipomifjblhpaaDoorProg.lean LOADS. Nothing in Lean hashes anything: it is a label: what it is worth is what the hold of that sum in a sandbox is worth. -/
noncomputable def Tryd.pinned : Pinned := { name := "ytbipomifjblhpaadoor", sum := "b69170148ab6cc2aeedb1395ddb07fabe232098adfa8e80fd82f93c031398866", checked := Tryd.checked }
namespace Rows
def none {H : Type} : Left H := { results := [], args := [] }

/- WHAT THE LISTED PACKAGE-LEVEL VARIABLES READ AS WHEN THE CALL BEGINS. Each datum BY PROGRAM (the guide's laid-datum.mjs) off the statement by which the dump's own 'gosem.cut.vars' lays the variable. In a bare row this is a premise. The card (YtbipomifjblhpaaDoorCards.lean) ties it to the program's text. -/
def laid_donjon_isa_forms {H : Type} : DataW H := .agg [.agg [.lit (.string []), .lit (.int .i64 0), .agg [.agg [.lit (.int .i64 0), .lit (.int .i64 0)], .agg [.lit (.int .i64 0), .lit (.int .i64 0)], .agg [.lit (.int .i64 0), .lit (.int .i64 0)]]], .agg [.lit (.string [115, 101, 116]), .lit (.int .i64 2), .agg [.agg [.lit (.int .i64 0), .lit (.int .i64 3)], .agg [.lit (.int .i64 0), .lit (.int .i64 (-2))], .agg [.lit (.int .i64 0), .lit (.int .i64 0)]]], .agg [.lit (.string [97, 100, 100]), .lit (.int .i64 3), .agg [.agg [.lit (.int .i64 0), .lit (.int .i64 3)], .agg [.lit (.int .i64 0), .lit (.int .i64 3)], .agg [.lit (.int .i64 0), .lit (.int .i64 3)]]], .agg [.lit (.string [108, 111, 97, 100]), .lit (.int .i64 2), .agg [.agg [.lit (.int .i64 0), .lit (.int .i64 3)], .agg [.lit (.int .i64 0), .lit (.int .i64 3)], .agg [.lit (.int .i64 0), .lit (.int .i64 0)]]], .agg [.lit (.string [115, 116, 111, 114, 101]), .lit (.int .i64 2), .agg [.agg [.lit (.int .i64 0), .lit (.int .i64 3)], .agg [.lit (.int .i64 0), .lit (.int .i64 3)], .agg [.lit (.int .i64 0), .lit (.int .i64 0)]]], .agg [.lit (.string [115, 119, 97, 112]), .lit (.int .i64 2), .agg [.agg [.lit (.int .i64 0), .lit (.int .i64 3)], .agg [.lit (.int .i64 0), .lit (.int .i64 3)], .agg [.lit (.int .i64 0), .lit (.int .i64 0)]]], .agg [.lit (.string [102, 101, 110, 99, 101]), .lit (.int .i64 0), .agg [.agg [.lit (.int .i64 0), .lit (.int .i64 0)], .agg [.lit (.int .i64 0), .lit (.int .i64 0)], .agg [.lit (.int .i64 0), .lit (.int .i64 0)]]], .agg [.lit (.string [119, 111, 114, 108, 100]), .lit (.int .i64 1), .agg [.agg [.lit (.int .i64 1), .lit (.int .i64 3)], .agg [.lit (.int .i64 0), .lit (.int .i64 0)], .agg [.lit (.int .i64 0), .lit (.int .i64 0)]]], .agg [.lit (.string [99, 97, 108, 108]), .lit (.int .i64 3), .agg [.agg [.lit (.int .i64 1), .lit (.int .i64 4)], .agg [.lit (.int .i64 0), .lit (.int .i64 3)], .agg [.lit (.int .i64 0), .lit (.int .i64 3)]]], .agg [.lit (.string [106, 117, 109, 112]), .lit (.int .i64 1), .agg [.agg [.lit (.int .i64 0), .lit (.int .i64 (-1))], .agg [.lit (.int .i64 0), .lit (.int .i64 0)], .agg [.lit (.int .i64 0), .lit (.int .i64 0)]]], .agg [.lit (.string [122, 101, 114, 111]), .lit (.int .i64 2), .agg [.agg [.lit (.int .i64 0), .lit (.int .i64 3)], .agg [.lit (.int .i64 0), .lit (.int .i64 (-1))], .agg [.lit (.int .i64 0), .lit (.int .i64 0)]]], .agg [.lit (.string [104, 97, 108, 116]), .lit (.int .i64 0), .agg [.agg [.lit (.int .i64 0), .lit (.int .i64 0)], .agg [.lit (.int .i64 0), .lit (.int .i64 0)], .agg [.lit (.int .i64 0), .lit (.int .i64 0)]]]]

/-- 'donjonlaw15.CoreNews': WHATEVER THE INPUT: true; the input reads as it did. -/
def coreNewsSpec : ChangeSpec := { name := "coreNews", fn := fun _ => fun
  | [d1, d2, d3] => { results := [.lit (.bool true)], args := [d1, d2, d3] }
  | _ => none }
def coreNewsRow : OpenClaim := { program := "ytbipomifjblhpaadoor", sum := "b69170148ab6cc2aeedb1395ddb07fabe232098adfa8e80fd82f93c031398866", func := "donjon/donjonlaw15.CoreNews", spec := "coreNews", unfollowed := true, recurses := true, named := ["donjon/isa.forms"], apart := false, laid := [("donjon/isa.forms", laid_donjon_isa_forms)] }
def CoreNewsSaid : Prop := coreNewsRow.holds Tryd.pinned (OpenSpec.ofChange coreNewsSpec)

/-- ITS FALSE NEIGHBOUR: 'it returns false'. Refute it at one input. -/
def coreNewsWrong : ChangeSpec := { name := "coreNews", fn := fun _ => fun
  | [d1, d2, d3] => { results := [.lit (.bool false)], args := [d1, d2, d3] }
  | _ => none }
def CoreNewsWrongFalsely : Prop := coreNewsRow.holds Tryd.pinned (OpenSpec.ofChange coreNewsWrong)

/-- 'donjonlaw15.CoreRuns': WHATEVER THE INPUT: true; the input reads as it did. -/
def coreRunsSpec : ChangeSpec := { name := "coreRuns", fn := fun _ => fun
  | [d1, d2, d3] => { results := [.lit (.bool true)], args := [d1, d2, d3] }
  | _ => none }
def coreRunsRow : OpenClaim := { program := "ytbipomifjblhpaadoor", sum := "b69170148ab6cc2aeedb1395ddb07fabe232098adfa8e80fd82f93c031398866", func := "donjon/donjonlaw15.CoreRuns", spec := "coreRuns", unfollowed := true, recurses := true, named := ["donjon/isa.forms"], apart := false, laid := [("donjon/isa.forms", laid_donjon_isa_forms)] }
def CoreRunsSaid : Prop := coreRunsRow.holds Tryd.pinned (OpenSpec.ofChange coreRunsSpec)

/-- ITS FALSE NEIGHBOUR: 'it returns false'. Refute it at one input. -/
def coreRunsWrong : ChangeSpec := { name := "coreRuns", fn := fun _ => fun
  | [d1, d2, d3] => { results := [.lit (.bool false)], args := [d1, d2, d3] }
  | _ => none }
def CoreRunsWrongFalsely : Prop := coreRunsRow.holds Tryd.pinned (OpenSpec.ofChange coreRunsWrong)

/-- 'donjonlaw15.CoreNil': WHATEVER THE INPUT: true; the input reads as it did. -/
def coreNilSpec : ChangeSpec := { name := "coreNil", fn := fun _ => fun
  | [d1, d2, d3] => { results := [.lit (.bool true)], args := [d1, d2, d3] }
  | _ => none }
def coreNilRow : OpenClaim := { program := "ytbipomifjblhpaadoor", sum := "b69170148ab6cc2aeedb1395ddb07fabe232098adfa8e80fd82f93c031398866", func := "donjon/donjonlaw15.CoreNil", spec := "coreNil", unfollowed := true, recurses := true, named := ["donjon/isa.forms"], apart := false, laid := [("donjon/isa.forms", laid_donjon_isa_forms)] }
def CoreNilSaid : Prop := coreNilRow.holds Tryd.pinned (OpenSpec.ofChange coreNilSpec)

/-- ITS FALSE NEIGHBOUR: 'it returns false'. Refute it at one input. -/
def coreNilWrong : ChangeSpec := { name := "coreNil", fn := fun _ => fun
  | [d1, d2, d3] => { results := [.lit (.bool false)], args := [d1, d2, d3] }
  | _ => none }
def CoreNilWrongFalsely : Prop := coreNilRow.holds Tryd.pinned (OpenSpec.ofChange coreNilWrong)

/-- 'donjonlaw15.CorePlaces': WHATEVER THE INPUT: true; the input reads as it did. -/
def corePlacesSpec : ChangeSpec := { name := "corePlaces", fn := fun _ => fun
  | [d] => { results := [.lit (.bool true)], args := [d] }
  | _ => none }
def corePlacesRow : OpenClaim := { program := "ytbipomifjblhpaadoor", sum := "b69170148ab6cc2aeedb1395ddb07fabe232098adfa8e80fd82f93c031398866", func := "donjon/donjonlaw15.CorePlaces", spec := "corePlaces", unfollowed := true, recurses := true, named := ["donjon/isa.forms"], apart := false, laid := [("donjon/isa.forms", laid_donjon_isa_forms)] }
def CorePlacesSaid : Prop := corePlacesRow.holds Tryd.pinned (OpenSpec.ofChange corePlacesSpec)

/-- ITS FALSE NEIGHBOUR: 'it returns false'. Refute it at one input. -/
def corePlacesWrong : ChangeSpec := { name := "corePlaces", fn := fun _ => fun
  | [d] => { results := [.lit (.bool false)], args := [d] }
  | _ => none }
def CorePlacesWrongFalsely : Prop := corePlacesRow.holds Tryd.pinned (OpenSpec.ofChange corePlacesWrong)

/- THE SECOND FORM. 'bulk': how many values and letters a reading holds, each counted each time it is reached (what is shared counts as often as it is met; a slice's spare places count too). A statement '..UptoSaid' is the law's where the arguments, and the package variables that the reading takes, are together of bulk at most 1048576: NARROWER than '..Said'. Prove '..Said' where nothing that the law and all that it calls make is longer than what came in: it says more and counts as full. Else prove '..UptoSaid'. A law counts once. -/
mutual
def uptoBulk {H : Type} : DataW H → Nat
  | .lit (.string bytes) => bytes.length + 1
  | .lit _ => 1
  | .nil => 1
  | .ptr d => uptoBulk d + 1
  | .slice elems spare => uptoBulkAll elems + uptoBulkAll spare + 1
  | .agg parts => uptoBulkAll parts + 1
  | .iface _ d => uptoBulk d + 1
  | .map entries => uptoBulkEntries entries + 1
  | .held _ => 1
def uptoBulkAll {H : Type} : List (DataW H) → Nat
  | [] => 0
  | d :: r => uptoBulk d + uptoBulkAll r
def uptoBulkEntries {H : Type} : List (Lit × DataW H) → Nat
  | [] => 0
  | x :: r => uptoBulkEntry x + uptoBulkEntries r
def uptoBulkEntry {H : Type} : Lit × DataW H → Nat
  | (.string bytes, d) => bytes.length + uptoBulk d + 1
  | (_, d) => uptoBulk d + 1
 end
def uptoSmall : (H : Type) → List (DataW H) → Bool := fun _ ds => decide (uptoBulkAll ds ≤ 1048576)
def OpenSpec.upto (s : _root_.Go.ChangeSpec) : _root_.Go.OpenSpec := { _root_.Go.OpenSpec.ofChange s with cond := some uptoSmall }

/-- 'donjonlaw15.CoreNews', WHERE WHAT IT READS IS OF BULK AT MOST 1048576: true; the input reads as it did. -/
def coreNewsUptoRow : OpenClaim := { program := "ytbipomifjblhpaadoor", sum := "b69170148ab6cc2aeedb1395ddb07fabe232098adfa8e80fd82f93c031398866", func := "donjon/donjonlaw15.CoreNews", spec := "coreNews", unfollowed := true, recurses := true, named := ["donjon/isa.forms"], apart := false, laid := [("donjon/isa.forms", laid_donjon_isa_forms)], narrowed := true }
def CoreNewsUptoSaid : Prop := coreNewsUptoRow.holds Tryd.pinned (OpenSpec.upto coreNewsSpec)

/-- 'donjonlaw15.CoreRuns', WHERE WHAT IT READS IS OF BULK AT MOST 1048576: true; the input reads as it did. -/
def coreRunsUptoRow : OpenClaim := { program := "ytbipomifjblhpaadoor", sum := "b69170148ab6cc2aeedb1395ddb07fabe232098adfa8e80fd82f93c031398866", func := "donjon/donjonlaw15.CoreRuns", spec := "coreRuns", unfollowed := true, recurses := true, named := ["donjon/isa.forms"], apart := false, laid := [("donjon/isa.forms", laid_donjon_isa_forms)], narrowed := true }
def CoreRunsUptoSaid : Prop := coreRunsUptoRow.holds Tryd.pinned (OpenSpec.upto coreRunsSpec)

/-- 'donjonlaw15.CoreNil', WHERE WHAT IT READS IS OF BULK AT MOST 1048576: true; the input reads as it did. -/
def coreNilUptoRow : OpenClaim := { program := "ytbipomifjblhpaadoor", sum := "b69170148ab6cc2aeedb1395ddb07fabe232098adfa8e80fd82f93c031398866", func := "donjon/donjonlaw15.CoreNil", spec := "coreNil", unfollowed := true, recurses := true, named := ["donjon/isa.forms"], apart := false, laid := [("donjon/isa.forms", laid_donjon_isa_forms)], narrowed := true }
def CoreNilUptoSaid : Prop := coreNilUptoRow.holds Tryd.pinned (OpenSpec.upto coreNilSpec)

/-- 'donjonlaw15.CorePlaces', WHERE WHAT IT READS IS OF BULK AT MOST 1048576: true; the input reads as it did. -/
def corePlacesUptoRow : OpenClaim := { program := "ytbipomifjblhpaadoor", sum := "b69170148ab6cc2aeedb1395ddb07fabe232098adfa8e80fd82f93c031398866", func := "donjon/donjonlaw15.CorePlaces", spec := "corePlaces", unfollowed := true, recurses := true, named := ["donjon/isa.forms"], apart := false, laid := [("donjon/isa.forms", laid_donjon_isa_forms)], narrowed := true }
def CorePlacesUptoSaid : Prop := corePlacesUptoRow.holds Tryd.pinned (OpenSpec.upto corePlacesSpec)

end Rows
end Go.Proofs.YtbipomifjblhpaaDoor
