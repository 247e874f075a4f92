/-
  No cell of these rows narrows 'for every input' (looked for: loops, veiled, ifaces, maps, wideKeys, modest, calm, conditions, laid).
  DERIVED. THE GIVEN ROWS OF THIS SEAT. 3 by the template 'for every input the law returns true; each argument reads behind the call as it read before'; 0 by the template 'total and deterministic' (their statements: YtpnfdndjaepbbaaTotals.lean).
  GIVEN WITH THE SEED: the statements are not yours to turn. If you find one false, say at which input.
  Laid BY PROGRAM, IN A SANDBOX (cutbox-rows.mjs): the forced cells as the released guide's own fill.sh prints them over the translation d71fe564e0d432b0… (all of the seat's roots in one cut). By AI agents, Wed Nov 11 2026. No macro, syntax, notation, axiom, sorry.
-/
import Derived.Test.YtpnfdndjaepbbaaChecked
import GoSem.Claim
import GoSem.ClaimJoined
import GoSem.ClaimMapViews
import Derived.JoinedTies
import Derived.KernelRfl
namespace Go.Proofs.Ytpnfdndjaepbbaa
/- THE CELL 'sum', in the pinned program and in every row, IS THE sha256 OF THE DUMP (.gsa) THAT YtpnfdndjaepbbaaProg.lean LOADS. Nothing in Lean hashes anything: it is a label: what it is worth is what the hold of that sum in a sandbox is worth. -/
noncomputable def Try.pinned : Pinned := { name := "ytpnfdndjaepbbaa", sum := "d71fe564e0d432b0cf65df089cf267b4c61992aa4f7363eb93ffba6b0c294815", checked := Try.checked }
namespace Rows
def none {H : Type} : Left H := { results := [], args := [] }

/-- 'donjonlaw02.BankApart': WHATEVER THE INPUT: true; the input reads as it did. -/
def bankApartSpec : ChangeSpec := { name := "bankApart", fn := fun _ => fun
  | [d1, d2, d3] => { results := [.lit (.bool true)], args := [d1, d2, d3] }
  | _ => none }
def bankApartRow : OpenClaim := { program := "ytpnfdndjaepbbaa", sum := "d71fe564e0d432b0cf65df089cf267b4c61992aa4f7363eb93ffba6b0c294815", func := "donjon/donjonlaw02.BankApart", spec := "bankApart", unfollowed := true, recurses := true, apart := false }
def BankApartSaid : Prop := bankApartRow.holds Try.pinned (OpenSpec.ofChange bankApartSpec)

/-- ITS FALSE NEIGHBOUR: 'it returns false'. Refute it at one input. -/
def bankApartWrong : ChangeSpec := { name := "bankApart", fn := fun _ => fun
  | [d1, d2, d3] => { results := [.lit (.bool false)], args := [d1, d2, d3] }
  | _ => none }
def BankApartWrongFalsely : Prop := bankApartRow.holds Try.pinned (OpenSpec.ofChange bankApartWrong)

/-- 'donjonlaw02.BankLast': WHATEVER THE INPUT: true; the input reads as it did. -/
def bankLastSpec : ChangeSpec := { name := "bankLast", fn := fun _ => fun
  | [d1, d2, d3] => { results := [.lit (.bool true)], args := [d1, d2, d3] }
  | _ => none }
def bankLastRow : OpenClaim := { program := "ytpnfdndjaepbbaa", sum := "d71fe564e0d432b0cf65df089cf267b4c61992aa4f7363eb93ffba6b0c294815", func := "donjon/donjonlaw02.BankLast", spec := "bankLast", unfollowed := true, recurses := true, apart := false }
def BankLastSaid : Prop := bankLastRow.holds Try.pinned (OpenSpec.ofChange bankLastSpec)

/-- ITS FALSE NEIGHBOUR: 'it returns false'. Refute it at one input. -/
def bankLastWrong : ChangeSpec := { name := "bankLast", fn := fun _ => fun
  | [d1, d2, d3] => { results := [.lit (.bool false)], args := [d1, d2, d3] }
  | _ => none }
def BankLastWrongFalsely : Prop := bankLastRow.holds Try.pinned (OpenSpec.ofChange bankLastWrong)

/-- 'donjonlaw02.BankCopies': WHATEVER THE INPUT: true; the input reads as it did. -/
def bankCopiesSpec : ChangeSpec := { name := "bankCopies", fn := fun _ => fun
  | [d1, d2, d3] => { results := [.lit (.bool true)], args := [d1, d2, d3] }
  | _ => none }
def bankCopiesRow : OpenClaim := { program := "ytpnfdndjaepbbaa", sum := "d71fe564e0d432b0cf65df089cf267b4c61992aa4f7363eb93ffba6b0c294815", func := "donjon/donjonlaw02.BankCopies", spec := "bankCopies", unfollowed := true, recurses := true, apart := false }
def BankCopiesSaid : Prop := bankCopiesRow.holds Try.pinned (OpenSpec.ofChange bankCopiesSpec)

/-- ITS FALSE NEIGHBOUR: 'it returns false'. Refute it at one input. -/
def bankCopiesWrong : ChangeSpec := { name := "bankCopies", fn := fun _ => fun
  | [d1, d2, d3] => { results := [.lit (.bool false)], args := [d1, d2, d3] }
  | _ => none }
def BankCopiesWrongFalsely : Prop := bankCopiesRow.holds Try.pinned (OpenSpec.ofChange bankCopiesWrong)

/- THE SECOND FORM. 'bulk': how many values and letters a reading holds, each counted each time it is reached (what is shared counts as often as it is met; a slice's spare places count too). A statement '..UptoSaid' is the law's where the arguments, and the package variables that the reading takes, are together of bulk at most 1048576: NARROWER than '..Said'. Prove '..Said' where nothing that the law and all that it calls make is longer than what came in: it says more and counts as full. Else prove '..UptoSaid'. A law counts once. -/
mutual
def uptoBulk {H : Type} : DataW H → Nat
  | .lit (.string bytes) => bytes.length + 1
  | .lit _ => 1
  | .nil => 1
  | .ptr d => uptoBulk d + 1
  | .slice elems spare => uptoBulkAll elems + uptoBulkAll spare + 1
  | .agg parts => uptoBulkAll parts + 1
  | .iface _ d => uptoBulk d + 1
  | .map entries => uptoBulkEntries entries + 1
  | .held _ => 1
def uptoBulkAll {H : Type} : List (DataW H) → Nat
  | [] => 0
  | d :: r => uptoBulk d + uptoBulkAll r
def uptoBulkEntries {H : Type} : List (Lit × DataW H) → Nat
  | [] => 0
  | x :: r => uptoBulkEntry x + uptoBulkEntries r
def uptoBulkEntry {H : Type} : Lit × DataW H → Nat
  | (.string bytes, d) => bytes.length + uptoBulk d + 1
  | (_, d) => uptoBulk d + 1
 end
def uptoSmall : (H : Type) → List (DataW H) → Bool := fun _ ds => decide (uptoBulkAll ds ≤ 1048576)
def OpenSpec.upto (s : _root_.Go.ChangeSpec) : _root_.Go.OpenSpec := { _root_.Go.OpenSpec.ofChange s with cond := some uptoSmall }

/-- 'donjonlaw02.BankApart', WHERE WHAT IT READS IS OF BULK AT MOST 1048576: true; the input reads as it did. -/
def bankApartUptoRow : OpenClaim := { program := "ytpnfdndjaepbbaa", sum := "d71fe564e0d432b0cf65df089cf267b4c61992aa4f7363eb93ffba6b0c294815", func := "donjon/donjonlaw02.BankApart", spec := "bankApart", unfollowed := true, recurses := true, apart := false, narrowed := true }
def BankApartUptoSaid : Prop := bankApartUptoRow.holds Try.pinned (OpenSpec.upto bankApartSpec)

/-- 'donjonlaw02.BankLast', WHERE WHAT IT READS IS OF BULK AT MOST 1048576: true; the input reads as it did. -/
def bankLastUptoRow : OpenClaim := { program := "ytpnfdndjaepbbaa", sum := "d71fe564e0d432b0cf65df089cf267b4c61992aa4f7363eb93ffba6b0c294815", func := "donjon/donjonlaw02.BankLast", spec := "bankLast", unfollowed := true, recurses := true, apart := false, narrowed := true }
def BankLastUptoSaid : Prop := bankLastUptoRow.holds Try.pinned (OpenSpec.upto bankLastSpec)

/-- 'donjonlaw02.BankCopies', WHERE WHAT IT READS IS OF BULK AT MOST 1048576: true; the input reads as it did. -/
def bankCopiesUptoRow : OpenClaim := { program := "ytpnfdndjaepbbaa", sum := "d71fe564e0d432b0cf65df089cf267b4c61992aa4f7363eb93ffba6b0c294815", func := "donjon/donjonlaw02.BankCopies", spec := "bankCopies", unfollowed := true, recurses := true, apart := false, narrowed := true }
def BankCopiesUptoSaid : Prop := bankCopiesUptoRow.holds Try.pinned (OpenSpec.upto bankCopiesSpec)

end Rows
end Go.Proofs.Ytpnfdndjaepbbaa
