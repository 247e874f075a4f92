/-
  DERIVED. GIVEN WITH THE SEED: THE CARDS: each row of YtbipomifjblhpaaDoorRows.lean that lists a variable, with what it lists TIED to the program's text (the seventh form; the later family's looks); each row that meets fmt, with fmt's text TOLD by the authors' own Lean function (tested against real Go, not proved from fmt's source: count such statements apart). THE CARD IS WHAT COUNTS. Prove the row's statement (the work); the ties are given (YtbipomifjblhpaaDoorTie.lean); close each card by the builder's one call (the guide's Derived/Test/ToyasCard.lean, 'card_holds'). Laid BY PROGRAM, IN A SANDBOX (cutbox-door.mjs). By AI agents, Wed Nov 11 2026. No macro, syntax, notation, axiom, sorry.
-/
import Derived.Test.YtbipomifjblhpaaDoorRows
import GoSem.ClaimSeven
namespace Go.Proofs.YtbipomifjblhpaaDoor
namespace Rows

/-- THE TIED CARD OF 'donjonlaw15.CoreNews'. -/
def coreNewsCard : Claim7 := { stood := { row := coreNewsRow, standIns := [], harness := (true, "96075cebb3ee1fa3c1f76df54df19b3c44f9723fdf74a5a8101d6ab1f0c04086"), looks := false }, kinds := [], alts := [], laidByText := true, laidKinds := [.data], laidTests := true, laidLooks := .later }
def CoreNewsCardSaid : Prop := Claim7.holds Tryd.pinned (.plain (OpenSpec.ofChange coreNewsSpec)) coreNewsCard

/-- THE TIED CARD OF 'donjonlaw15.CoreRuns'. -/
def coreRunsCard : Claim7 := { stood := { row := coreRunsRow, standIns := [], harness := (true, "96075cebb3ee1fa3c1f76df54df19b3c44f9723fdf74a5a8101d6ab1f0c04086"), looks := false }, kinds := [], alts := [], laidByText := true, laidKinds := [.data], laidTests := true, laidLooks := .later }
def CoreRunsCardSaid : Prop := Claim7.holds Tryd.pinned (.plain (OpenSpec.ofChange coreRunsSpec)) coreRunsCard

/-- THE TIED CARD OF 'donjonlaw15.CoreNil'. -/
def coreNilCard : Claim7 := { stood := { row := coreNilRow, standIns := [], harness := (true, "96075cebb3ee1fa3c1f76df54df19b3c44f9723fdf74a5a8101d6ab1f0c04086"), looks := false }, kinds := [], alts := [], laidByText := true, laidKinds := [.data], laidTests := true, laidLooks := .later }
def CoreNilCardSaid : Prop := Claim7.holds Tryd.pinned (.plain (OpenSpec.ofChange coreNilSpec)) coreNilCard

/-- THE TIED CARD OF 'donjonlaw15.CorePlaces'. -/
def corePlacesCard : Claim7 := { stood := { row := corePlacesRow, standIns := [], harness := (true, "96075cebb3ee1fa3c1f76df54df19b3c44f9723fdf74a5a8101d6ab1f0c04086"), looks := false }, kinds := [], alts := [], laidByText := true, laidKinds := [.data], laidTests := true, laidLooks := .later }
def CorePlacesCardSaid : Prop := Claim7.holds Tryd.pinned (.plain (OpenSpec.ofChange corePlacesSpec)) corePlacesCard

/-- THE SECOND FORM's CARD OF 'donjonlaw15.CoreNews'. -/
def coreNewsUptoCard : Claim7 := { stood := { row := coreNewsUptoRow, standIns := [], harness := (true, "96075cebb3ee1fa3c1f76df54df19b3c44f9723fdf74a5a8101d6ab1f0c04086"), looks := false }, kinds := [], alts := [], laidByText := true, laidKinds := [.data], laidTests := true, laidLooks := .later }
def CoreNewsUptoCardSaid : Prop := Claim7.holds Tryd.pinned (.plain (OpenSpec.upto coreNewsSpec)) coreNewsUptoCard

/-- THE SECOND FORM's CARD OF 'donjonlaw15.CoreRuns'. -/
def coreRunsUptoCard : Claim7 := { stood := { row := coreRunsUptoRow, standIns := [], harness := (true, "96075cebb3ee1fa3c1f76df54df19b3c44f9723fdf74a5a8101d6ab1f0c04086"), looks := false }, kinds := [], alts := [], laidByText := true, laidKinds := [.data], laidTests := true, laidLooks := .later }
def CoreRunsUptoCardSaid : Prop := Claim7.holds Tryd.pinned (.plain (OpenSpec.upto coreRunsSpec)) coreRunsUptoCard

/-- THE SECOND FORM's CARD OF 'donjonlaw15.CoreNil'. -/
def coreNilUptoCard : Claim7 := { stood := { row := coreNilUptoRow, standIns := [], harness := (true, "96075cebb3ee1fa3c1f76df54df19b3c44f9723fdf74a5a8101d6ab1f0c04086"), looks := false }, kinds := [], alts := [], laidByText := true, laidKinds := [.data], laidTests := true, laidLooks := .later }
def CoreNilUptoCardSaid : Prop := Claim7.holds Tryd.pinned (.plain (OpenSpec.upto coreNilSpec)) coreNilUptoCard

/-- THE SECOND FORM's CARD OF 'donjonlaw15.CorePlaces'. -/
def corePlacesUptoCard : Claim7 := { stood := { row := corePlacesUptoRow, standIns := [], harness := (true, "96075cebb3ee1fa3c1f76df54df19b3c44f9723fdf74a5a8101d6ab1f0c04086"), looks := false }, kinds := [], alts := [], laidByText := true, laidKinds := [.data], laidTests := true, laidLooks := .later }
def CorePlacesUptoCardSaid : Prop := Claim7.holds Tryd.pinned (.plain (OpenSpec.upto corePlacesSpec)) corePlacesUptoCard
end Rows
end Go.Proofs.YtbipomifjblhpaaDoor
