/-
  DERIVED. GIVEN WITH THE SEED: THE CARDS: each row of YtfojgijimhcclaaDoorRows.lean that lists a variable, with what it lists TIED to the program's text (the seventh form; the later family's looks); each row that meets fmt, with fmt's text TOLD by the authors' own Lean function (tested against real Go, not proved from fmt's source: count such statements apart). THE CARD IS WHAT COUNTS. Prove the row's statement (the work); the ties are given (YtfojgijimhcclaaDoorTie.lean); close each card by the builder's one call (the guide's Derived/Test/ToyasCard.lean, 'card_holds'). Laid BY PROGRAM, IN A SANDBOX (cutbox-door.mjs). By AI agents, Wed Nov 11 2026. No macro, syntax, notation, axiom, sorry.
-/
import Derived.Test.YtfojgijimhcclaaDoorRows
import GoSem.ClaimSeven
namespace Go.Proofs.YtfojgijimhcclaaDoor
namespace Rows

/-- THE TIED CARD OF 'donjonlaw05.FabricOnce'. -/
def fabricOnceCard : Claim7 := { stood := { row := fabricOnceRow, standIns := [], harness := (true, "9e2ddbd0ca906f19de72a710278a38e2b860f2b2ad1b29c265b44c8dd6adf84f"), looks := false }, kinds := [], alts := [], laidByText := true, laidKinds := [.data], laidTests := true, laidLooks := .later }
def FabricOnceCardSaid : Prop := Claim7.holds Tryd.pinned (.plain (OpenSpec.ofChange fabricOnceSpec)) fabricOnceCard

/-- THE TIED CARD OF 'donjonlaw05.FabricCopies'. -/
def fabricCopiesCard : Claim7 := { stood := { row := fabricCopiesRow, standIns := [], harness := (true, "9e2ddbd0ca906f19de72a710278a38e2b860f2b2ad1b29c265b44c8dd6adf84f"), looks := false }, kinds := [], alts := [], laidByText := true, laidKinds := [.data], laidTests := true, laidLooks := .later }
def FabricCopiesCardSaid : Prop := Claim7.holds Tryd.pinned (.plain (OpenSpec.ofChange fabricCopiesSpec)) fabricCopiesCard

/-- THE TIED CARD OF 'donjonlaw03.NotePrints'. -/
def notePrintsCard : Claim7 := { stood := { row := notePrintsRow, standIns := [], harness := (true, "9e2ddbd0ca906f19de72a710278a38e2b860f2b2ad1b29c265b44c8dd6adf84f"), looks := false }, kinds := [], alts := [], laidByText := true, laidKinds := [.data, .data, .data, .data], laidTests := true, laidLooks := .later }
def NotePrintsCardSaid : Prop := Claim7.holds Tryd.pinned (.plain (OpenSpec.ofChange notePrintsSpec)) notePrintsCard

/-- THE TIED CARD OF 'donjonlaw03.NoteMore'. -/
def noteMoreCard : Claim7 := { stood := { row := noteMoreRow, standIns := [], harness := (true, "9e2ddbd0ca906f19de72a710278a38e2b860f2b2ad1b29c265b44c8dd6adf84f"), looks := false }, kinds := [], alts := [], laidByText := true, laidKinds := [.data, .data, .data, .data], laidTests := true, laidLooks := .later }
def NoteMoreCardSaid : Prop := Claim7.holds Tryd.pinned (.plain (OpenSpec.ofChange noteMoreSpec)) noteMoreCard

/-- THE TIED CARD OF 'donjonlaw03.NoteChecks'. -/
def noteChecksCard : Claim7 := { stood := { row := noteChecksRow, standIns := [], harness := (true, "9e2ddbd0ca906f19de72a710278a38e2b860f2b2ad1b29c265b44c8dd6adf84f"), looks := false }, kinds := [], alts := [], laidByText := true, laidKinds := [.data, .data, .data, .data], laidTests := true, laidLooks := .later }
def NoteChecksCardSaid : Prop := Claim7.holds Tryd.pinned (.plain (OpenSpec.ofChange noteChecksSpec)) noteChecksCard

/-- THE TIED CARD OF 'donjonlaw03.NoteOne'. -/
def noteOneCard : Claim7 := { stood := { row := noteOneRow, standIns := [], harness := (true, "9e2ddbd0ca906f19de72a710278a38e2b860f2b2ad1b29c265b44c8dd6adf84f"), looks := false }, kinds := [], alts := [], laidByText := true, laidKinds := [.data, .data, .data, .data], laidTests := true, laidLooks := .later }
def NoteOneCardSaid : Prop := Claim7.holds Tryd.pinned (.plain (OpenSpec.ofChange noteOneSpec)) noteOneCard

/-- THE SECOND FORM's CARD OF 'donjonlaw05.FabricOnce'. -/
def fabricOnceUptoCard : Claim7 := { stood := { row := fabricOnceUptoRow, standIns := [], harness := (true, "9e2ddbd0ca906f19de72a710278a38e2b860f2b2ad1b29c265b44c8dd6adf84f"), looks := false }, kinds := [], alts := [], laidByText := true, laidKinds := [.data], laidTests := true, laidLooks := .later }
def FabricOnceUptoCardSaid : Prop := Claim7.holds Tryd.pinned (.plain (OpenSpec.upto fabricOnceSpec)) fabricOnceUptoCard

/-- THE SECOND FORM's CARD OF 'donjonlaw05.FabricCopies'. -/
def fabricCopiesUptoCard : Claim7 := { stood := { row := fabricCopiesUptoRow, standIns := [], harness := (true, "9e2ddbd0ca906f19de72a710278a38e2b860f2b2ad1b29c265b44c8dd6adf84f"), looks := false }, kinds := [], alts := [], laidByText := true, laidKinds := [.data], laidTests := true, laidLooks := .later }
def FabricCopiesUptoCardSaid : Prop := Claim7.holds Tryd.pinned (.plain (OpenSpec.upto fabricCopiesSpec)) fabricCopiesUptoCard

/-- THE SECOND FORM's CARD OF 'donjonlaw03.NotePrints'. -/
def notePrintsUptoCard : Claim7 := { stood := { row := notePrintsUptoRow, standIns := [], harness := (true, "9e2ddbd0ca906f19de72a710278a38e2b860f2b2ad1b29c265b44c8dd6adf84f"), looks := false }, kinds := [], alts := [], laidByText := true, laidKinds := [.data, .data, .data, .data], laidTests := true, laidLooks := .later }
def NotePrintsUptoCardSaid : Prop := Claim7.holds Tryd.pinned (.plain (OpenSpec.upto notePrintsSpec)) notePrintsUptoCard

/-- THE SECOND FORM's CARD OF 'donjonlaw03.NoteMore'. -/
def noteMoreUptoCard : Claim7 := { stood := { row := noteMoreUptoRow, standIns := [], harness := (true, "9e2ddbd0ca906f19de72a710278a38e2b860f2b2ad1b29c265b44c8dd6adf84f"), looks := false }, kinds := [], alts := [], laidByText := true, laidKinds := [.data, .data, .data, .data], laidTests := true, laidLooks := .later }
def NoteMoreUptoCardSaid : Prop := Claim7.holds Tryd.pinned (.plain (OpenSpec.upto noteMoreSpec)) noteMoreUptoCard

/-- THE SECOND FORM's CARD OF 'donjonlaw03.NoteChecks'. -/
def noteChecksUptoCard : Claim7 := { stood := { row := noteChecksUptoRow, standIns := [], harness := (true, "9e2ddbd0ca906f19de72a710278a38e2b860f2b2ad1b29c265b44c8dd6adf84f"), looks := false }, kinds := [], alts := [], laidByText := true, laidKinds := [.data, .data, .data, .data], laidTests := true, laidLooks := .later }
def NoteChecksUptoCardSaid : Prop := Claim7.holds Tryd.pinned (.plain (OpenSpec.upto noteChecksSpec)) noteChecksUptoCard

/-- THE SECOND FORM's CARD OF 'donjonlaw03.NoteOne'. -/
def noteOneUptoCard : Claim7 := { stood := { row := noteOneUptoRow, standIns := [], harness := (true, "9e2ddbd0ca906f19de72a710278a38e2b860f2b2ad1b29c265b44c8dd6adf84f"), looks := false }, kinds := [], alts := [], laidByText := true, laidKinds := [.data, .data, .data, .data], laidTests := true, laidLooks := .later }
def NoteOneUptoCardSaid : Prop := Claim7.holds Tryd.pinned (.plain (OpenSpec.upto noteOneSpec)) noteOneUptoCard
end Rows
end Go.Proofs.YtfojgijimhcclaaDoor
