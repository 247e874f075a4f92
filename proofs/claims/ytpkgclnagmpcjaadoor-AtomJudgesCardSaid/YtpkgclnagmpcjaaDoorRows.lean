/-
  NARROWER THAN 'FOR EVERY INPUT', by the rows' own cells (each row's printed sentence says how): AtomJudges: laid · AtomSteps: laid · AtomApart: laid · AtomBusy: laid · AtomCopies: laid · AtomKeeps: laid · AtomNil: laid · ReplayRuns: laid.
  DERIVED. THE GIVEN ROWS OF THIS SEAT. 8 by the template 'for every input the law returns true; each argument reads behind the call as it read before'; 0 by the template 'total and deterministic' (their statements: YtpkgclnagmpcjaaDoorTotals.lean).
  GIVEN WITH THE SEED: the statements are not yours to turn. If you find one false, say at which input.
  Laid BY PROGRAM, IN A SANDBOX (cutbox-rows.mjs): the forced cells as the released guide's own fill.sh prints them over the translation 1ecba2dfc8ceabe9… (all of the seat's roots in one cut). By AI agents, Wed Nov 11 2026. No macro, syntax, notation, axiom, sorry.
-/
import Derived.Test.YtpkgclnagmpcjaaDoorChecked
import GoSem.Claim
import GoSem.ClaimJoined
import GoSem.ClaimMapViews
import Derived.JoinedTies
import Derived.KernelRfl
namespace Go.Proofs.YtpkgclnagmpcjaaDoor
/- THE CELL 'sum', in the pinned program and in every row, IS THE sha256 OF THE DUMP (.gsa) THAT YtpkgclnagmpcjaaDoorProg.lean LOADS. Nothing in Lean hashes anything: it is a label: what it is worth is what the hold of that sum in a sandbox is worth. -/
noncomputable def Tryd.pinned : Pinned := { name := "ytpkgclnagmpcjaadoor", sum := "1ecba2dfc8ceabe9e54857f40c3abeee2b98d148a3987fcf31720522719b7686", checked := Tryd.checked }
namespace Rows
def none {H : Type} : Left H := { results := [], args := [] }

/- WHAT THE LISTED PACKAGE-LEVEL VARIABLES READ AS WHEN THE CALL BEGINS. Each datum BY PROGRAM (the guide's laid-datum.mjs) off the statement by which the dump's own 'gosem.cut.vars' lays the variable. In a bare row this is a premise. The card (YtpkgclnagmpcjaaDoorCards.lean) ties it to the program's text. -/
def laid_donjon_isa_forms {H : Type} : DataW H := .agg [.agg [.lit (.string []), .lit (.int .i64 0), .agg [.agg [.lit (.int .i64 0), .lit (.int .i64 0)], .agg [.lit (.int .i64 0), .lit (.int .i64 0)], .agg [.lit (.int .i64 0), .lit (.int .i64 0)]]], .agg [.lit (.string [115, 101, 116]), .lit (.int .i64 2), .agg [.agg [.lit (.int .i64 0), .lit (.int .i64 3)], .agg [.lit (.int .i64 0), .lit (.int .i64 (-2))], .agg [.lit (.int .i64 0), .lit (.int .i64 0)]]], .agg [.lit (.string [97, 100, 100]), .lit (.int .i64 3), .agg [.agg [.lit (.int .i64 0), .lit (.int .i64 3)], .agg [.lit (.int .i64 0), .lit (.int .i64 3)], .agg [.lit (.int .i64 0), .lit (.int .i64 3)]]], .agg [.lit (.string [108, 111, 97, 100]), .lit (.int .i64 2), .agg [.agg [.lit (.int .i64 0), .lit (.int .i64 3)], .agg [.lit (.int .i64 0), .lit (.int .i64 3)], .agg [.lit (.int .i64 0), .lit (.int .i64 0)]]], .agg [.lit (.string [115, 116, 111, 114, 101]), .lit (.int .i64 2), .agg [.agg [.lit (.int .i64 0), .lit (.int .i64 3)], .agg [.lit (.int .i64 0), .lit (.int .i64 3)], .agg [.lit (.int .i64 0), .lit (.int .i64 0)]]], .agg [.lit (.string [115, 119, 97, 112]), .lit (.int .i64 2), .agg [.agg [.lit (.int .i64 0), .lit (.int .i64 3)], .agg [.lit (.int .i64 0), .lit (.int .i64 3)], .agg [.lit (.int .i64 0), .lit (.int .i64 0)]]], .agg [.lit (.string [102, 101, 110, 99, 101]), .lit (.int .i64 0), .agg [.agg [.lit (.int .i64 0), .lit (.int .i64 0)], .agg [.lit (.int .i64 0), .lit (.int .i64 0)], .agg [.lit (.int .i64 0), .lit (.int .i64 0)]]], .agg [.lit (.string [119, 111, 114, 108, 100]), .lit (.int .i64 1), .agg [.agg [.lit (.int .i64 1), .lit (.int .i64 3)], .agg [.lit (.int .i64 0), .lit (.int .i64 0)], .agg [.lit (.int .i64 0), .lit (.int .i64 0)]]], .agg [.lit (.string [99, 97, 108, 108]), .lit (.int .i64 3), .agg [.agg [.lit (.int .i64 1), .lit (.int .i64 4)], .agg [.lit (.int .i64 0), .lit (.int .i64 3)], .agg [.lit (.int .i64 0), .lit (.int .i64 3)]]], .agg [.lit (.string [106, 117, 109, 112]), .lit (.int .i64 1), .agg [.agg [.lit (.int .i64 0), .lit (.int .i64 (-1))], .agg [.lit (.int .i64 0), .lit (.int .i64 0)], .agg [.lit (.int .i64 0), .lit (.int .i64 0)]]], .agg [.lit (.string [122, 101, 114, 111]), .lit (.int .i64 2), .agg [.agg [.lit (.int .i64 0), .lit (.int .i64 3)], .agg [.lit (.int .i64 0), .lit (.int .i64 (-1))], .agg [.lit (.int .i64 0), .lit (.int .i64 0)]]], .agg [.lit (.string [104, 97, 108, 116]), .lit (.int .i64 0), .agg [.agg [.lit (.int .i64 0), .lit (.int .i64 0)], .agg [.lit (.int .i64 0), .lit (.int .i64 0)], .agg [.lit (.int .i64 0), .lit (.int .i64 0)]]]]

/-- 'donjonlaw11.AtomJudges': WHATEVER THE INPUT: true; the input reads as it did. -/
def atomJudgesSpec : ChangeSpec := { name := "atomJudges", fn := fun _ => fun
  | [d1, d2, d3] => { results := [.lit (.bool true)], args := [d1, d2, d3] }
  | _ => none }
def atomJudgesRow : OpenClaim := { program := "ytpkgclnagmpcjaadoor", sum := "1ecba2dfc8ceabe9e54857f40c3abeee2b98d148a3987fcf31720522719b7686", func := "donjon/donjonlaw11.AtomJudges", spec := "atomJudges", unfollowed := true, recurses := true, named := ["donjon/isa.forms"], apart := false, laid := [("donjon/isa.forms", laid_donjon_isa_forms)] }
def AtomJudgesSaid : Prop := atomJudgesRow.holds Tryd.pinned (OpenSpec.ofChange atomJudgesSpec)

/-- ITS FALSE NEIGHBOUR: 'it returns false'. Refute it at one input. -/
def atomJudgesWrong : ChangeSpec := { name := "atomJudges", fn := fun _ => fun
  | [d1, d2, d3] => { results := [.lit (.bool false)], args := [d1, d2, d3] }
  | _ => none }
def AtomJudgesWrongFalsely : Prop := atomJudgesRow.holds Tryd.pinned (OpenSpec.ofChange atomJudgesWrong)

/-- 'donjonlaw11.AtomSteps': WHATEVER THE INPUT: true; the input reads as it did. -/
def atomStepsSpec : ChangeSpec := { name := "atomSteps", fn := fun _ => fun
  | [d1, d2] => { results := [.lit (.bool true)], args := [d1, d2] }
  | _ => none }
def atomStepsRow : OpenClaim := { program := "ytpkgclnagmpcjaadoor", sum := "1ecba2dfc8ceabe9e54857f40c3abeee2b98d148a3987fcf31720522719b7686", func := "donjon/donjonlaw11.AtomSteps", spec := "atomSteps", unfollowed := true, recurses := true, named := ["donjon/isa.forms"], apart := false, laid := [("donjon/isa.forms", laid_donjon_isa_forms)] }
def AtomStepsSaid : Prop := atomStepsRow.holds Tryd.pinned (OpenSpec.ofChange atomStepsSpec)

/-- ITS FALSE NEIGHBOUR: 'it returns false'. Refute it at one input. -/
def atomStepsWrong : ChangeSpec := { name := "atomSteps", fn := fun _ => fun
  | [d1, d2] => { results := [.lit (.bool false)], args := [d1, d2] }
  | _ => none }
def AtomStepsWrongFalsely : Prop := atomStepsRow.holds Tryd.pinned (OpenSpec.ofChange atomStepsWrong)

/-- 'donjonlaw11.AtomApart': WHATEVER THE INPUT: true; the input reads as it did. -/
def atomApartSpec : ChangeSpec := { name := "atomApart", fn := fun _ => fun
  | [d1, d2, d3] => { results := [.lit (.bool true)], args := [d1, d2, d3] }
  | _ => none }
def atomApartRow : OpenClaim := { program := "ytpkgclnagmpcjaadoor", sum := "1ecba2dfc8ceabe9e54857f40c3abeee2b98d148a3987fcf31720522719b7686", func := "donjon/donjonlaw11.AtomApart", spec := "atomApart", unfollowed := true, recurses := true, named := ["donjon/isa.forms"], apart := false, laid := [("donjon/isa.forms", laid_donjon_isa_forms)] }
def AtomApartSaid : Prop := atomApartRow.holds Tryd.pinned (OpenSpec.ofChange atomApartSpec)

/-- ITS FALSE NEIGHBOUR: 'it returns false'. Refute it at one input. -/
def atomApartWrong : ChangeSpec := { name := "atomApart", fn := fun _ => fun
  | [d1, d2, d3] => { results := [.lit (.bool false)], args := [d1, d2, d3] }
  | _ => none }
def AtomApartWrongFalsely : Prop := atomApartRow.holds Tryd.pinned (OpenSpec.ofChange atomApartWrong)

/-- 'donjonlaw11.AtomBusy': WHATEVER THE INPUT: true; the input reads as it did. -/
def atomBusySpec : ChangeSpec := { name := "atomBusy", fn := fun _ => fun
  | [d1, d2, d3] => { results := [.lit (.bool true)], args := [d1, d2, d3] }
  | _ => none }
def atomBusyRow : OpenClaim := { program := "ytpkgclnagmpcjaadoor", sum := "1ecba2dfc8ceabe9e54857f40c3abeee2b98d148a3987fcf31720522719b7686", func := "donjon/donjonlaw11.AtomBusy", spec := "atomBusy", unfollowed := true, recurses := true, named := ["donjon/isa.forms"], apart := false, laid := [("donjon/isa.forms", laid_donjon_isa_forms)] }
def AtomBusySaid : Prop := atomBusyRow.holds Tryd.pinned (OpenSpec.ofChange atomBusySpec)

/-- ITS FALSE NEIGHBOUR: 'it returns false'. Refute it at one input. -/
def atomBusyWrong : ChangeSpec := { name := "atomBusy", fn := fun _ => fun
  | [d1, d2, d3] => { results := [.lit (.bool false)], args := [d1, d2, d3] }
  | _ => none }
def AtomBusyWrongFalsely : Prop := atomBusyRow.holds Tryd.pinned (OpenSpec.ofChange atomBusyWrong)

/-- 'donjonlaw11.AtomCopies': WHATEVER THE INPUT: true; the input reads as it did. -/
def atomCopiesSpec : ChangeSpec := { name := "atomCopies", fn := fun _ => fun
  | [d1, d2, d3] => { results := [.lit (.bool true)], args := [d1, d2, d3] }
  | _ => none }
def atomCopiesRow : OpenClaim := { program := "ytpkgclnagmpcjaadoor", sum := "1ecba2dfc8ceabe9e54857f40c3abeee2b98d148a3987fcf31720522719b7686", func := "donjon/donjonlaw11.AtomCopies", spec := "atomCopies", unfollowed := true, recurses := true, named := ["donjon/isa.forms"], apart := false, laid := [("donjon/isa.forms", laid_donjon_isa_forms)] }
def AtomCopiesSaid : Prop := atomCopiesRow.holds Tryd.pinned (OpenSpec.ofChange atomCopiesSpec)

/-- ITS FALSE NEIGHBOUR: 'it returns false'. Refute it at one input. -/
def atomCopiesWrong : ChangeSpec := { name := "atomCopies", fn := fun _ => fun
  | [d1, d2, d3] => { results := [.lit (.bool false)], args := [d1, d2, d3] }
  | _ => none }
def AtomCopiesWrongFalsely : Prop := atomCopiesRow.holds Tryd.pinned (OpenSpec.ofChange atomCopiesWrong)

/-- 'donjonlaw11.AtomKeeps': WHATEVER THE INPUT: true; the input reads as it did. -/
def atomKeepsSpec : ChangeSpec := { name := "atomKeeps", fn := fun _ => fun
  | [d1, d2] => { results := [.lit (.bool true)], args := [d1, d2] }
  | _ => none }
def atomKeepsRow : OpenClaim := { program := "ytpkgclnagmpcjaadoor", sum := "1ecba2dfc8ceabe9e54857f40c3abeee2b98d148a3987fcf31720522719b7686", func := "donjon/donjonlaw11.AtomKeeps", spec := "atomKeeps", unfollowed := true, recurses := true, named := ["donjon/isa.forms"], apart := false, laid := [("donjon/isa.forms", laid_donjon_isa_forms)] }
def AtomKeepsSaid : Prop := atomKeepsRow.holds Tryd.pinned (OpenSpec.ofChange atomKeepsSpec)

/-- ITS FALSE NEIGHBOUR: 'it returns false'. Refute it at one input. -/
def atomKeepsWrong : ChangeSpec := { name := "atomKeeps", fn := fun _ => fun
  | [d1, d2] => { results := [.lit (.bool false)], args := [d1, d2] }
  | _ => none }
def AtomKeepsWrongFalsely : Prop := atomKeepsRow.holds Tryd.pinned (OpenSpec.ofChange atomKeepsWrong)

/-- 'donjonlaw11.AtomNil': WHATEVER THE INPUT: true; the input reads as it did. -/
def atomNilSpec : ChangeSpec := { name := "atomNil", fn := fun _ => fun
  | [d1, d2] => { results := [.lit (.bool true)], args := [d1, d2] }
  | _ => none }
def atomNilRow : OpenClaim := { program := "ytpkgclnagmpcjaadoor", sum := "1ecba2dfc8ceabe9e54857f40c3abeee2b98d148a3987fcf31720522719b7686", func := "donjon/donjonlaw11.AtomNil", spec := "atomNil", unfollowed := true, recurses := true, named := ["donjon/isa.forms"], apart := false, laid := [("donjon/isa.forms", laid_donjon_isa_forms)] }
def AtomNilSaid : Prop := atomNilRow.holds Tryd.pinned (OpenSpec.ofChange atomNilSpec)

/-- ITS FALSE NEIGHBOUR: 'it returns false'. Refute it at one input. -/
def atomNilWrong : ChangeSpec := { name := "atomNil", fn := fun _ => fun
  | [d1, d2] => { results := [.lit (.bool false)], args := [d1, d2] }
  | _ => none }
def AtomNilWrongFalsely : Prop := atomNilRow.holds Tryd.pinned (OpenSpec.ofChange atomNilWrong)

/-- 'donjonlaw18.ReplayRuns': WHATEVER THE INPUT: true; the input reads as it did. -/
def replayRunsSpec : ChangeSpec := { name := "replayRuns", fn := fun _ => fun
  | [d1, d2] => { results := [.lit (.bool true)], args := [d1, d2] }
  | _ => none }
def replayRunsRow : OpenClaim := { program := "ytpkgclnagmpcjaadoor", sum := "1ecba2dfc8ceabe9e54857f40c3abeee2b98d148a3987fcf31720522719b7686", func := "donjon/donjonlaw18.ReplayRuns", spec := "replayRuns", unfollowed := true, recurses := true, named := ["donjon/isa.forms"], apart := false, laid := [("donjon/isa.forms", laid_donjon_isa_forms)] }
def ReplayRunsSaid : Prop := replayRunsRow.holds Tryd.pinned (OpenSpec.ofChange replayRunsSpec)

/-- ITS FALSE NEIGHBOUR: 'it returns false'. Refute it at one input. -/
def replayRunsWrong : ChangeSpec := { name := "replayRuns", fn := fun _ => fun
  | [d1, d2] => { results := [.lit (.bool false)], args := [d1, d2] }
  | _ => none }
def ReplayRunsWrongFalsely : Prop := replayRunsRow.holds Tryd.pinned (OpenSpec.ofChange replayRunsWrong)

/- THE SECOND FORM. 'bulk': how many values and letters a reading holds, each counted each time it is reached (what is shared counts as often as it is met; a slice's spare places count too). A statement '..UptoSaid' is the law's where the arguments, and the package variables that the reading takes, are together of bulk at most 1048576: NARROWER than '..Said'. Prove '..Said' where nothing that the law and all that it calls make is longer than what came in: it says more and counts as full. Else prove '..UptoSaid'. A law counts once. -/
mutual
def uptoBulk {H : Type} : DataW H → Nat
  | .lit (.string bytes) => bytes.length + 1
  | .lit _ => 1
  | .nil => 1
  | .ptr d => uptoBulk d + 1
  | .slice elems spare => uptoBulkAll elems + uptoBulkAll spare + 1
  | .agg parts => uptoBulkAll parts + 1
  | .iface _ d => uptoBulk d + 1
  | .map entries => uptoBulkEntries entries + 1
  | .held _ => 1
def uptoBulkAll {H : Type} : List (DataW H) → Nat
  | [] => 0
  | d :: r => uptoBulk d + uptoBulkAll r
def uptoBulkEntries {H : Type} : List (Lit × DataW H) → Nat
  | [] => 0
  | x :: r => uptoBulkEntry x + uptoBulkEntries r
def uptoBulkEntry {H : Type} : Lit × DataW H → Nat
  | (.string bytes, d) => bytes.length + uptoBulk d + 1
  | (_, d) => uptoBulk d + 1
 end
def uptoSmall : (H : Type) → List (DataW H) → Bool := fun _ ds => decide (uptoBulkAll ds ≤ 1048576)
def OpenSpec.upto (s : _root_.Go.ChangeSpec) : _root_.Go.OpenSpec := { _root_.Go.OpenSpec.ofChange s with cond := some uptoSmall }

/-- 'donjonlaw11.AtomJudges', WHERE WHAT IT READS IS OF BULK AT MOST 1048576: true; the input reads as it did. -/
def atomJudgesUptoRow : OpenClaim := { program := "ytpkgclnagmpcjaadoor", sum := "1ecba2dfc8ceabe9e54857f40c3abeee2b98d148a3987fcf31720522719b7686", func := "donjon/donjonlaw11.AtomJudges", spec := "atomJudges", unfollowed := true, recurses := true, named := ["donjon/isa.forms"], apart := false, laid := [("donjon/isa.forms", laid_donjon_isa_forms)], narrowed := true }
def AtomJudgesUptoSaid : Prop := atomJudgesUptoRow.holds Tryd.pinned (OpenSpec.upto atomJudgesSpec)

/-- 'donjonlaw11.AtomSteps', WHERE WHAT IT READS IS OF BULK AT MOST 1048576: true; the input reads as it did. -/
def atomStepsUptoRow : OpenClaim := { program := "ytpkgclnagmpcjaadoor", sum := "1ecba2dfc8ceabe9e54857f40c3abeee2b98d148a3987fcf31720522719b7686", func := "donjon/donjonlaw11.AtomSteps", spec := "atomSteps", unfollowed := true, recurses := true, named := ["donjon/isa.forms"], apart := false, laid := [("donjon/isa.forms", laid_donjon_isa_forms)], narrowed := true }
def AtomStepsUptoSaid : Prop := atomStepsUptoRow.holds Tryd.pinned (OpenSpec.upto atomStepsSpec)

/-- 'donjonlaw11.AtomApart', WHERE WHAT IT READS IS OF BULK AT MOST 1048576: true; the input reads as it did. -/
def atomApartUptoRow : OpenClaim := { program := "ytpkgclnagmpcjaadoor", sum := "1ecba2dfc8ceabe9e54857f40c3abeee2b98d148a3987fcf31720522719b7686", func := "donjon/donjonlaw11.AtomApart", spec := "atomApart", unfollowed := true, recurses := true, named := ["donjon/isa.forms"], apart := false, laid := [("donjon/isa.forms", laid_donjon_isa_forms)], narrowed := true }
def AtomApartUptoSaid : Prop := atomApartUptoRow.holds Tryd.pinned (OpenSpec.upto atomApartSpec)

/-- 'donjonlaw11.AtomBusy', WHERE WHAT IT READS IS OF BULK AT MOST 1048576: true; the input reads as it did. -/
def atomBusyUptoRow : OpenClaim := { program := "ytpkgclnagmpcjaadoor", sum := "1ecba2dfc8ceabe9e54857f40c3abeee2b98d148a3987fcf31720522719b7686", func := "donjon/donjonlaw11.AtomBusy", spec := "atomBusy", unfollowed := true, recurses := true, named := ["donjon/isa.forms"], apart := false, laid := [("donjon/isa.forms", laid_donjon_isa_forms)], narrowed := true }
def AtomBusyUptoSaid : Prop := atomBusyUptoRow.holds Tryd.pinned (OpenSpec.upto atomBusySpec)

/-- 'donjonlaw11.AtomCopies', WHERE WHAT IT READS IS OF BULK AT MOST 1048576: true; the input reads as it did. -/
def atomCopiesUptoRow : OpenClaim := { program := "ytpkgclnagmpcjaadoor", sum := "1ecba2dfc8ceabe9e54857f40c3abeee2b98d148a3987fcf31720522719b7686", func := "donjon/donjonlaw11.AtomCopies", spec := "atomCopies", unfollowed := true, recurses := true, named := ["donjon/isa.forms"], apart := false, laid := [("donjon/isa.forms", laid_donjon_isa_forms)], narrowed := true }
def AtomCopiesUptoSaid : Prop := atomCopiesUptoRow.holds Tryd.pinned (OpenSpec.upto atomCopiesSpec)

/-- 'donjonlaw11.AtomKeeps', WHERE WHAT IT READS IS OF BULK AT MOST 1048576: true; the input reads as it did. -/
def atomKeepsUptoRow : OpenClaim := { program := "ytpkgclnagmpcjaadoor", sum := "1ecba2dfc8ceabe9e54857f40c3abeee2b98d148a3987fcf31720522719b7686", func := "donjon/donjonlaw11.AtomKeeps", spec := "atomKeeps", unfollowed := true, recurses := true, named := ["donjon/isa.forms"], apart := false, laid := [("donjon/isa.forms", laid_donjon_isa_forms)], narrowed := true }
def AtomKeepsUptoSaid : Prop := atomKeepsUptoRow.holds Tryd.pinned (OpenSpec.upto atomKeepsSpec)

/-- 'donjonlaw11.AtomNil', WHERE WHAT IT READS IS OF BULK AT MOST 1048576: true; the input reads as it did. -/
def atomNilUptoRow : OpenClaim := { program := "ytpkgclnagmpcjaadoor", sum := "1ecba2dfc8ceabe9e54857f40c3abeee2b98d148a3987fcf31720522719b7686", func := "donjon/donjonlaw11.AtomNil", spec := "atomNil", unfollowed := true, recurses := true, named := ["donjon/isa.forms"], apart := false, laid := [("donjon/isa.forms", laid_donjon_isa_forms)], narrowed := true }
def AtomNilUptoSaid : Prop := atomNilUptoRow.holds Tryd.pinned (OpenSpec.upto atomNilSpec)

/-- 'donjonlaw18.ReplayRuns', WHERE WHAT IT READS IS OF BULK AT MOST 1048576: true; the input reads as it did. -/
def replayRunsUptoRow : OpenClaim := { program := "ytpkgclnagmpcjaadoor", sum := "1ecba2dfc8ceabe9e54857f40c3abeee2b98d148a3987fcf31720522719b7686", func := "donjon/donjonlaw18.ReplayRuns", spec := "replayRuns", unfollowed := true, recurses := true, named := ["donjon/isa.forms"], apart := false, laid := [("donjon/isa.forms", laid_donjon_isa_forms)], narrowed := true }
def ReplayRunsUptoSaid : Prop := replayRunsUptoRow.holds Tryd.pinned (OpenSpec.upto replayRunsSpec)

end Rows
end Go.Proofs.YtpkgclnagmpcjaaDoor
