/-
  No cell of these rows narrows 'for every input' (looked for: loops, veiled, ifaces, maps, wideKeys, modest, calm, conditions, laid).
  DERIVED. THE GIVEN ROWS OF THIS SEAT. 4 by the template 'for every input the law returns true; each argument reads behind the call as it read before'; 0 by the template 'total and deterministic' (their statements: YtjjfnpidgochnaaTotals.lean).
  GIVEN WITH THE SEED: the statements are not yours to turn. If you find one false, say at which input.
  Laid BY PROGRAM, IN A SANDBOX (cutbox-rows.mjs): the forced cells as the released guide's own fill.sh prints them over the translation ccbbf16f988bc3d5… (all of the seat's roots in one cut). By AI agents, Wed Nov 11 2026. No macro, syntax, notation, axiom, sorry.
-/
import Derived.Test.YtjjfnpidgochnaaChecked
import GoSem.Claim
import GoSem.ClaimJoined
import GoSem.ClaimMapViews
import Derived.JoinedTies
import Derived.KernelRfl
namespace Go.Proofs.Ytjjfnpidgochnaa
/- THE CELL 'sum', in the pinned program and in every row, IS THE sha256 OF THE DUMP (.gsa) THAT YtjjfnpidgochnaaProg.lean LOADS. Nothing in Lean hashes anything: it is a label: what it is worth is what the hold of that sum in a sandbox is worth. -/
noncomputable def Try.pinned : Pinned := { name := "ytjjfnpidgochnaa", sum := "ccbbf16f988bc3d56d50ebb1ef0fcc2512fd381eb2a10afe3a4efb850c6f33c6", checked := Try.checked }
namespace Rows
def none {H : Type} : Left H := { results := [], args := [] }

/-- 'donjonlaw01.PlaceChecks': WHATEVER THE INPUT: true; the input reads as it did. -/
def placeChecksSpec : ChangeSpec := { name := "placeChecks", fn := fun _ => fun
  | [d] => { results := [.lit (.bool true)], args := [d] }
  | _ => none }
def placeChecksRow : OpenClaim := { program := "ytjjfnpidgochnaa", sum := "ccbbf16f988bc3d56d50ebb1ef0fcc2512fd381eb2a10afe3a4efb850c6f33c6", func := "donjon/donjonlaw01.PlaceChecks", spec := "placeChecks", apart := false }
def PlaceChecksSaid : Prop := placeChecksRow.holds Try.pinned (OpenSpec.ofChange placeChecksSpec)

/-- ITS FALSE NEIGHBOUR: 'it returns false'. Refute it at one input. -/
def placeChecksWrong : ChangeSpec := { name := "placeChecks", fn := fun _ => fun
  | [d] => { results := [.lit (.bool false)], args := [d] }
  | _ => none }
def PlaceChecksWrongFalsely : Prop := placeChecksRow.holds Try.pinned (OpenSpec.ofChange placeChecksWrong)

/-- 'donjonlaw01.PlaceFinds': WHATEVER THE INPUT: true; the input reads as it did. -/
def placeFindsSpec : ChangeSpec := { name := "placeFinds", fn := fun _ => fun
  | [d1, d2, d3] => { results := [.lit (.bool true)], args := [d1, d2, d3] }
  | _ => none }
def placeFindsRow : OpenClaim := { program := "ytjjfnpidgochnaa", sum := "ccbbf16f988bc3d56d50ebb1ef0fcc2512fd381eb2a10afe3a4efb850c6f33c6", func := "donjon/donjonlaw01.PlaceFinds", spec := "placeFinds", apart := false }
def PlaceFindsSaid : Prop := placeFindsRow.holds Try.pinned (OpenSpec.ofChange placeFindsSpec)

/-- ITS FALSE NEIGHBOUR: 'it returns false'. Refute it at one input. -/
def placeFindsWrong : ChangeSpec := { name := "placeFinds", fn := fun _ => fun
  | [d1, d2, d3] => { results := [.lit (.bool false)], args := [d1, d2, d3] }
  | _ => none }
def PlaceFindsWrongFalsely : Prop := placeFindsRow.holds Try.pinned (OpenSpec.ofChange placeFindsWrong)

/-- 'donjonlaw01.PlaceLines': WHATEVER THE INPUT: true; the input reads as it did. -/
def placeLinesSpec : ChangeSpec := { name := "placeLines", fn := fun _ => fun
  | [d1, d2] => { results := [.lit (.bool true)], args := [d1, d2] }
  | _ => none }
def placeLinesRow : OpenClaim := { program := "ytjjfnpidgochnaa", sum := "ccbbf16f988bc3d56d50ebb1ef0fcc2512fd381eb2a10afe3a4efb850c6f33c6", func := "donjon/donjonlaw01.PlaceLines", spec := "placeLines", unfollowed := true, recurses := true, apart := false }
def PlaceLinesSaid : Prop := placeLinesRow.holds Try.pinned (OpenSpec.ofChange placeLinesSpec)

/-- ITS FALSE NEIGHBOUR: 'it returns false'. Refute it at one input. -/
def placeLinesWrong : ChangeSpec := { name := "placeLines", fn := fun _ => fun
  | [d1, d2] => { results := [.lit (.bool false)], args := [d1, d2] }
  | _ => none }
def PlaceLinesWrongFalsely : Prop := placeLinesRow.holds Try.pinned (OpenSpec.ofChange placeLinesWrong)

/-- 'donjonlaw01.PlaceBack': WHATEVER THE INPUT: true; the input reads as it did. -/
def placeBackSpec : ChangeSpec := { name := "placeBack", fn := fun _ => fun
  | [d] => { results := [.lit (.bool true)], args := [d] }
  | _ => none }
def placeBackRow : OpenClaim := { program := "ytjjfnpidgochnaa", sum := "ccbbf16f988bc3d56d50ebb1ef0fcc2512fd381eb2a10afe3a4efb850c6f33c6", func := "donjon/donjonlaw01.PlaceBack", spec := "placeBack", unfollowed := true, recurses := true, apart := false }
def PlaceBackSaid : Prop := placeBackRow.holds Try.pinned (OpenSpec.ofChange placeBackSpec)

/-- ITS FALSE NEIGHBOUR: 'it returns false'. Refute it at one input. -/
def placeBackWrong : ChangeSpec := { name := "placeBack", fn := fun _ => fun
  | [d] => { results := [.lit (.bool false)], args := [d] }
  | _ => none }
def PlaceBackWrongFalsely : Prop := placeBackRow.holds Try.pinned (OpenSpec.ofChange placeBackWrong)

/- THE SECOND FORM. 'bulk': how many values and letters a reading holds, each counted each time it is reached (what is shared counts as often as it is met; a slice's spare places count too). A statement '..UptoSaid' is the law's where the arguments, and the package variables that the reading takes, are together of bulk at most 1048576: NARROWER than '..Said'. Prove '..Said' where nothing that the law and all that it calls make is longer than what came in: it says more and counts as full. Else prove '..UptoSaid'. A law counts once. -/
mutual
def uptoBulk {H : Type} : DataW H → Nat
  | .lit (.string bytes) => bytes.length + 1
  | .lit _ => 1
  | .nil => 1
  | .ptr d => uptoBulk d + 1
  | .slice elems spare => uptoBulkAll elems + uptoBulkAll spare + 1
  | .agg parts => uptoBulkAll parts + 1
  | .iface _ d => uptoBulk d + 1
  | .map entries => uptoBulkEntries entries + 1
  | .held _ => 1
def uptoBulkAll {H : Type} : List (DataW H) → Nat
  | [] => 0
  | d :: r => uptoBulk d + uptoBulkAll r
def uptoBulkEntries {H : Type} : List (Lit × DataW H) → Nat
  | [] => 0
  | x :: r => uptoBulkEntry x + uptoBulkEntries r
def uptoBulkEntry {H : Type} : Lit × DataW H → Nat
  | (.string bytes, d) => bytes.length + uptoBulk d + 1
  | (_, d) => uptoBulk d + 1
 end
def uptoSmall : (H : Type) → List (DataW H) → Bool := fun _ ds => decide (uptoBulkAll ds ≤ 1048576)
def OpenSpec.upto (s : _root_.Go.ChangeSpec) : _root_.Go.OpenSpec := { _root_.Go.OpenSpec.ofChange s with cond := some uptoSmall }

/-- 'donjonlaw01.PlaceChecks', WHERE WHAT IT READS IS OF BULK AT MOST 1048576: true; the input reads as it did. -/
def placeChecksUptoRow : OpenClaim := { program := "ytjjfnpidgochnaa", sum := "ccbbf16f988bc3d56d50ebb1ef0fcc2512fd381eb2a10afe3a4efb850c6f33c6", func := "donjon/donjonlaw01.PlaceChecks", spec := "placeChecks", apart := false, narrowed := true }
def PlaceChecksUptoSaid : Prop := placeChecksUptoRow.holds Try.pinned (OpenSpec.upto placeChecksSpec)

/-- 'donjonlaw01.PlaceFinds', WHERE WHAT IT READS IS OF BULK AT MOST 1048576: true; the input reads as it did. -/
def placeFindsUptoRow : OpenClaim := { program := "ytjjfnpidgochnaa", sum := "ccbbf16f988bc3d56d50ebb1ef0fcc2512fd381eb2a10afe3a4efb850c6f33c6", func := "donjon/donjonlaw01.PlaceFinds", spec := "placeFinds", apart := false, narrowed := true }
def PlaceFindsUptoSaid : Prop := placeFindsUptoRow.holds Try.pinned (OpenSpec.upto placeFindsSpec)

/-- 'donjonlaw01.PlaceLines', WHERE WHAT IT READS IS OF BULK AT MOST 1048576: true; the input reads as it did. -/
def placeLinesUptoRow : OpenClaim := { program := "ytjjfnpidgochnaa", sum := "ccbbf16f988bc3d56d50ebb1ef0fcc2512fd381eb2a10afe3a4efb850c6f33c6", func := "donjon/donjonlaw01.PlaceLines", spec := "placeLines", unfollowed := true, recurses := true, apart := false, narrowed := true }
def PlaceLinesUptoSaid : Prop := placeLinesUptoRow.holds Try.pinned (OpenSpec.upto placeLinesSpec)

/-- 'donjonlaw01.PlaceBack', WHERE WHAT IT READS IS OF BULK AT MOST 1048576: true; the input reads as it did. -/
def placeBackUptoRow : OpenClaim := { program := "ytjjfnpidgochnaa", sum := "ccbbf16f988bc3d56d50ebb1ef0fcc2512fd381eb2a10afe3a4efb850c6f33c6", func := "donjon/donjonlaw01.PlaceBack", spec := "placeBack", unfollowed := true, recurses := true, apart := false, narrowed := true }
def PlaceBackUptoSaid : Prop := placeBackUptoRow.holds Try.pinned (OpenSpec.upto placeBackSpec)

end Rows
end Go.Proofs.Ytjjfnpidgochnaa
