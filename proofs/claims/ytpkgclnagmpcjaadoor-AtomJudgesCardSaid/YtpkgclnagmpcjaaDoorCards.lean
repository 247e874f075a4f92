/-
  DERIVED. GIVEN WITH THE SEED: THE CARDS: each row of YtpkgclnagmpcjaaDoorRows.lean that lists a variable, with what it lists TIED to the program's text (the seventh form; the later family's looks); each row that meets fmt, with fmt's text TOLD by the authors' own Lean function (tested against real Go, not proved from fmt's source: count such statements apart). THE CARD IS WHAT COUNTS. Prove the row's statement (the work); the ties are given (YtpkgclnagmpcjaaDoorTie.lean); close each card by the builder's one call (the guide's Derived/Test/ToyasCard.lean, 'card_holds'). Laid BY PROGRAM, IN A SANDBOX (cutbox-door.mjs). By AI agents, Wed Nov 11 2026. No macro, syntax, notation, axiom, sorry.
-/
import Derived.Test.YtpkgclnagmpcjaaDoorRows
import GoSem.ClaimSeven
namespace Go.Proofs.YtpkgclnagmpcjaaDoor
namespace Rows

/-- THE TIED CARD OF 'donjonlaw11.AtomJudges'. -/
def atomJudgesCard : Claim7 := { stood := { row := atomJudgesRow, standIns := [], harness := (true, "e2c74a786eeb731cc7eb54a2a3780dccd852ff7664550601572bba80e5e1a6d4"), looks := false }, kinds := [], alts := [], laidByText := true, laidKinds := [.data], laidTests := true, laidLooks := .later }
def AtomJudgesCardSaid : Prop := Claim7.holds Tryd.pinned (.plain (OpenSpec.ofChange atomJudgesSpec)) atomJudgesCard

/-- THE TIED CARD OF 'donjonlaw11.AtomSteps'. -/
def atomStepsCard : Claim7 := { stood := { row := atomStepsRow, standIns := [], harness := (true, "e2c74a786eeb731cc7eb54a2a3780dccd852ff7664550601572bba80e5e1a6d4"), looks := false }, kinds := [], alts := [], laidByText := true, laidKinds := [.data], laidTests := true, laidLooks := .later }
def AtomStepsCardSaid : Prop := Claim7.holds Tryd.pinned (.plain (OpenSpec.ofChange atomStepsSpec)) atomStepsCard

/-- THE TIED CARD OF 'donjonlaw11.AtomApart'. -/
def atomApartCard : Claim7 := { stood := { row := atomApartRow, standIns := [], harness := (true, "e2c74a786eeb731cc7eb54a2a3780dccd852ff7664550601572bba80e5e1a6d4"), looks := false }, kinds := [], alts := [], laidByText := true, laidKinds := [.data], laidTests := true, laidLooks := .later }
def AtomApartCardSaid : Prop := Claim7.holds Tryd.pinned (.plain (OpenSpec.ofChange atomApartSpec)) atomApartCard

/-- THE TIED CARD OF 'donjonlaw11.AtomBusy'. -/
def atomBusyCard : Claim7 := { stood := { row := atomBusyRow, standIns := [], harness := (true, "e2c74a786eeb731cc7eb54a2a3780dccd852ff7664550601572bba80e5e1a6d4"), looks := false }, kinds := [], alts := [], laidByText := true, laidKinds := [.data], laidTests := true, laidLooks := .later }
def AtomBusyCardSaid : Prop := Claim7.holds Tryd.pinned (.plain (OpenSpec.ofChange atomBusySpec)) atomBusyCard

/-- THE TIED CARD OF 'donjonlaw11.AtomCopies'. -/
def atomCopiesCard : Claim7 := { stood := { row := atomCopiesRow, standIns := [], harness := (true, "e2c74a786eeb731cc7eb54a2a3780dccd852ff7664550601572bba80e5e1a6d4"), looks := false }, kinds := [], alts := [], laidByText := true, laidKinds := [.data], laidTests := true, laidLooks := .later }
def AtomCopiesCardSaid : Prop := Claim7.holds Tryd.pinned (.plain (OpenSpec.ofChange atomCopiesSpec)) atomCopiesCard

/-- THE TIED CARD OF 'donjonlaw11.AtomKeeps'. -/
def atomKeepsCard : Claim7 := { stood := { row := atomKeepsRow, standIns := [], harness := (true, "e2c74a786eeb731cc7eb54a2a3780dccd852ff7664550601572bba80e5e1a6d4"), looks := false }, kinds := [], alts := [], laidByText := true, laidKinds := [.data], laidTests := true, laidLooks := .later }
def AtomKeepsCardSaid : Prop := Claim7.holds Tryd.pinned (.plain (OpenSpec.ofChange atomKeepsSpec)) atomKeepsCard

/-- THE TIED CARD OF 'donjonlaw11.AtomNil'. -/
def atomNilCard : Claim7 := { stood := { row := atomNilRow, standIns := [], harness := (true, "e2c74a786eeb731cc7eb54a2a3780dccd852ff7664550601572bba80e5e1a6d4"), looks := false }, kinds := [], alts := [], laidByText := true, laidKinds := [.data], laidTests := true, laidLooks := .later }
def AtomNilCardSaid : Prop := Claim7.holds Tryd.pinned (.plain (OpenSpec.ofChange atomNilSpec)) atomNilCard

/-- THE TIED CARD OF 'donjonlaw18.ReplayRuns'. -/
def replayRunsCard : Claim7 := { stood := { row := replayRunsRow, standIns := [], harness := (true, "e2c74a786eeb731cc7eb54a2a3780dccd852ff7664550601572bba80e5e1a6d4"), looks := false }, kinds := [], alts := [], laidByText := true, laidKinds := [.data], laidTests := true, laidLooks := .later }
def ReplayRunsCardSaid : Prop := Claim7.holds Tryd.pinned (.plain (OpenSpec.ofChange replayRunsSpec)) replayRunsCard

/-- THE SECOND FORM's CARD OF 'donjonlaw11.AtomJudges'. -/
def atomJudgesUptoCard : Claim7 := { stood := { row := atomJudgesUptoRow, standIns := [], harness := (true, "e2c74a786eeb731cc7eb54a2a3780dccd852ff7664550601572bba80e5e1a6d4"), looks := false }, kinds := [], alts := [], laidByText := true, laidKinds := [.data], laidTests := true, laidLooks := .later }
def AtomJudgesUptoCardSaid : Prop := Claim7.holds Tryd.pinned (.plain (OpenSpec.upto atomJudgesSpec)) atomJudgesUptoCard

/-- THE SECOND FORM's CARD OF 'donjonlaw11.AtomSteps'. -/
def atomStepsUptoCard : Claim7 := { stood := { row := atomStepsUptoRow, standIns := [], harness := (true, "e2c74a786eeb731cc7eb54a2a3780dccd852ff7664550601572bba80e5e1a6d4"), looks := false }, kinds := [], alts := [], laidByText := true, laidKinds := [.data], laidTests := true, laidLooks := .later }
def AtomStepsUptoCardSaid : Prop := Claim7.holds Tryd.pinned (.plain (OpenSpec.upto atomStepsSpec)) atomStepsUptoCard

/-- THE SECOND FORM's CARD OF 'donjonlaw11.AtomApart'. -/
def atomApartUptoCard : Claim7 := { stood := { row := atomApartUptoRow, standIns := [], harness := (true, "e2c74a786eeb731cc7eb54a2a3780dccd852ff7664550601572bba80e5e1a6d4"), looks := false }, kinds := [], alts := [], laidByText := true, laidKinds := [.data], laidTests := true, laidLooks := .later }
def AtomApartUptoCardSaid : Prop := Claim7.holds Tryd.pinned (.plain (OpenSpec.upto atomApartSpec)) atomApartUptoCard

/-- THE SECOND FORM's CARD OF 'donjonlaw11.AtomBusy'. -/
def atomBusyUptoCard : Claim7 := { stood := { row := atomBusyUptoRow, standIns := [], harness := (true, "e2c74a786eeb731cc7eb54a2a3780dccd852ff7664550601572bba80e5e1a6d4"), looks := false }, kinds := [], alts := [], laidByText := true, laidKinds := [.data], laidTests := true, laidLooks := .later }
def AtomBusyUptoCardSaid : Prop := Claim7.holds Tryd.pinned (.plain (OpenSpec.upto atomBusySpec)) atomBusyUptoCard

/-- THE SECOND FORM's CARD OF 'donjonlaw11.AtomCopies'. -/
def atomCopiesUptoCard : Claim7 := { stood := { row := atomCopiesUptoRow, standIns := [], harness := (true, "e2c74a786eeb731cc7eb54a2a3780dccd852ff7664550601572bba80e5e1a6d4"), looks := false }, kinds := [], alts := [], laidByText := true, laidKinds := [.data], laidTests := true, laidLooks := .later }
def AtomCopiesUptoCardSaid : Prop := Claim7.holds Tryd.pinned (.plain (OpenSpec.upto atomCopiesSpec)) atomCopiesUptoCard

/-- THE SECOND FORM's CARD OF 'donjonlaw11.AtomKeeps'. -/
def atomKeepsUptoCard : Claim7 := { stood := { row := atomKeepsUptoRow, standIns := [], harness := (true, "e2c74a786eeb731cc7eb54a2a3780dccd852ff7664550601572bba80e5e1a6d4"), looks := false }, kinds := [], alts := [], laidByText := true, laidKinds := [.data], laidTests := true, laidLooks := .later }
def AtomKeepsUptoCardSaid : Prop := Claim7.holds Tryd.pinned (.plain (OpenSpec.upto atomKeepsSpec)) atomKeepsUptoCard

/-- THE SECOND FORM's CARD OF 'donjonlaw11.AtomNil'. -/
def atomNilUptoCard : Claim7 := { stood := { row := atomNilUptoRow, standIns := [], harness := (true, "e2c74a786eeb731cc7eb54a2a3780dccd852ff7664550601572bba80e5e1a6d4"), looks := false }, kinds := [], alts := [], laidByText := true, laidKinds := [.data], laidTests := true, laidLooks := .later }
def AtomNilUptoCardSaid : Prop := Claim7.holds Tryd.pinned (.plain (OpenSpec.upto atomNilSpec)) atomNilUptoCard

/-- THE SECOND FORM's CARD OF 'donjonlaw18.ReplayRuns'. -/
def replayRunsUptoCard : Claim7 := { stood := { row := replayRunsUptoRow, standIns := [], harness := (true, "e2c74a786eeb731cc7eb54a2a3780dccd852ff7664550601572bba80e5e1a6d4"), looks := false }, kinds := [], alts := [], laidByText := true, laidKinds := [.data], laidTests := true, laidLooks := .later }
def ReplayRunsUptoCardSaid : Prop := Claim7.holds Tryd.pinned (.plain (OpenSpec.upto replayRunsSpec)) replayRunsUptoCard
end Rows
end Go.Proofs.YtpkgclnagmpcjaaDoor
