/-
  DERIVED. GIVEN WITH THE SEED: THE CARDS: each row of YtjlnoohfbkdlmaaDoorRows.lean that lists a variable, with what it lists TIED to the program's text (the seventh form; the later family's looks); each row that meets fmt, with fmt's text TOLD by the authors' own Lean function (tested against real Go, not proved from fmt's source: count such statements apart). THE CARD IS WHAT COUNTS. Prove the row's statement (the work); the ties are given (YtjlnoohfbkdlmaaDoorTie.lean); close each card by the builder's one call (the guide's Derived/Test/ToyasCard.lean, 'card_holds'). Laid BY PROGRAM, IN A SANDBOX (cutbox-door.mjs). By AI agents, Wed Nov 11 2026. No macro, syntax, notation, axiom, sorry.
-/
import Derived.Test.YtjlnoohfbkdlmaaDoorRows
import GoSem.ClaimSeven
namespace Go.Proofs.YtjlnoohfbkdlmaaDoor
namespace Rows

/-- THE TIED CARD OF 'donjonlaw06.MoesiProbes'. -/
def moesiProbesCard : Claim7 := { stood := { row := moesiProbesRow, standIns := [], harness := (true, "4fc8d5771b5c06146a67aa3d97fcbf467512558b2f25d4bdb0bc57b298c24115"), looks := false }, kinds := [], alts := [], laidByText := true, laidKinds := [.data], laidTests := true, laidLooks := .later }
def MoesiProbesCardSaid : Prop := Claim7.holds Tryd.pinned (.plain (OpenSpec.ofChange moesiProbesSpec)) moesiProbesCard

/-- THE TIED CARD OF 'donjonlaw06.MoesiGrants'. -/
def moesiGrantsCard : Claim7 := { stood := { row := moesiGrantsRow, standIns := [], harness := (true, "4fc8d5771b5c06146a67aa3d97fcbf467512558b2f25d4bdb0bc57b298c24115"), looks := false }, kinds := [], alts := [], laidByText := true, laidKinds := [.data], laidTests := true, laidLooks := .later }
def MoesiGrantsCardSaid : Prop := Claim7.holds Tryd.pinned (.plain (OpenSpec.ofChange moesiGrantsSpec)) moesiGrantsCard

/-- THE TIED CARD OF 'donjonlaw06.MoesiFits'. -/
def moesiFitsCard : Claim7 := { stood := { row := moesiFitsRow, standIns := [], harness := (true, "4fc8d5771b5c06146a67aa3d97fcbf467512558b2f25d4bdb0bc57b298c24115"), looks := false }, kinds := [], alts := [], laidByText := true, laidKinds := [.data], laidTests := true, laidLooks := .later }
def MoesiFitsCardSaid : Prop := Claim7.holds Tryd.pinned (.plain (OpenSpec.ofChange moesiFitsSpec)) moesiFitsCard

/-- THE TIED CARD OF 'donjonlaw06.MoesiKeeps'. -/
def moesiKeepsCard : Claim7 := { stood := { row := moesiKeepsRow, standIns := [], harness := (true, "4fc8d5771b5c06146a67aa3d97fcbf467512558b2f25d4bdb0bc57b298c24115"), looks := false }, kinds := [], alts := [], laidByText := true, laidKinds := [.data], laidTests := true, laidLooks := .later }
def MoesiKeepsCardSaid : Prop := Claim7.holds Tryd.pinned (.plain (OpenSpec.ofChange moesiKeepsSpec)) moesiKeepsCard

/-- THE TIED CARD OF 'donjonlaw06.MoesiTwice'. -/
def moesiTwiceCard : Claim7 := { stood := { row := moesiTwiceRow, standIns := [], harness := (true, "4fc8d5771b5c06146a67aa3d97fcbf467512558b2f25d4bdb0bc57b298c24115"), looks := false }, kinds := [], alts := [], laidByText := true, laidKinds := [.data], laidTests := true, laidLooks := .later }
def MoesiTwiceCardSaid : Prop := Claim7.holds Tryd.pinned (.plain (OpenSpec.ofChange moesiTwiceSpec)) moesiTwiceCard

/-- THE TIED CARD OF 'donjonlaw06.MoesiStores'. -/
def moesiStoresCard : Claim7 := { stood := { row := moesiStoresRow, standIns := [], harness := (true, "4fc8d5771b5c06146a67aa3d97fcbf467512558b2f25d4bdb0bc57b298c24115"), looks := false }, kinds := [], alts := [], laidByText := true, laidKinds := [.data], laidTests := true, laidLooks := .later }
def MoesiStoresCardSaid : Prop := Claim7.holds Tryd.pinned (.plain (OpenSpec.ofChange moesiStoresSpec)) moesiStoresCard

/-- THE TIED CARD OF 'donjonlaw06.MoesiStates'. -/
def moesiStatesCard : Claim7 := { stood := { row := moesiStatesRow, standIns := [], harness := (true, "4fc8d5771b5c06146a67aa3d97fcbf467512558b2f25d4bdb0bc57b298c24115"), looks := false }, kinds := [], alts := [], laidByText := true, laidKinds := [.data], laidTests := true, laidLooks := .later }
def MoesiStatesCardSaid : Prop := Claim7.holds Tryd.pinned (.plain (OpenSpec.ofChange moesiStatesSpec)) moesiStatesCard

/-- THE SECOND FORM's CARD OF 'donjonlaw06.MoesiProbes'. -/
def moesiProbesUptoCard : Claim7 := { stood := { row := moesiProbesUptoRow, standIns := [], harness := (true, "4fc8d5771b5c06146a67aa3d97fcbf467512558b2f25d4bdb0bc57b298c24115"), looks := false }, kinds := [], alts := [], laidByText := true, laidKinds := [.data], laidTests := true, laidLooks := .later }
def MoesiProbesUptoCardSaid : Prop := Claim7.holds Tryd.pinned (.plain (OpenSpec.upto moesiProbesSpec)) moesiProbesUptoCard

/-- THE SECOND FORM's CARD OF 'donjonlaw06.MoesiGrants'. -/
def moesiGrantsUptoCard : Claim7 := { stood := { row := moesiGrantsUptoRow, standIns := [], harness := (true, "4fc8d5771b5c06146a67aa3d97fcbf467512558b2f25d4bdb0bc57b298c24115"), looks := false }, kinds := [], alts := [], laidByText := true, laidKinds := [.data], laidTests := true, laidLooks := .later }
def MoesiGrantsUptoCardSaid : Prop := Claim7.holds Tryd.pinned (.plain (OpenSpec.upto moesiGrantsSpec)) moesiGrantsUptoCard

/-- THE SECOND FORM's CARD OF 'donjonlaw06.MoesiFits'. -/
def moesiFitsUptoCard : Claim7 := { stood := { row := moesiFitsUptoRow, standIns := [], harness := (true, "4fc8d5771b5c06146a67aa3d97fcbf467512558b2f25d4bdb0bc57b298c24115"), looks := false }, kinds := [], alts := [], laidByText := true, laidKinds := [.data], laidTests := true, laidLooks := .later }
def MoesiFitsUptoCardSaid : Prop := Claim7.holds Tryd.pinned (.plain (OpenSpec.upto moesiFitsSpec)) moesiFitsUptoCard

/-- THE SECOND FORM's CARD OF 'donjonlaw06.MoesiKeeps'. -/
def moesiKeepsUptoCard : Claim7 := { stood := { row := moesiKeepsUptoRow, standIns := [], harness := (true, "4fc8d5771b5c06146a67aa3d97fcbf467512558b2f25d4bdb0bc57b298c24115"), looks := false }, kinds := [], alts := [], laidByText := true, laidKinds := [.data], laidTests := true, laidLooks := .later }
def MoesiKeepsUptoCardSaid : Prop := Claim7.holds Tryd.pinned (.plain (OpenSpec.upto moesiKeepsSpec)) moesiKeepsUptoCard

/-- THE SECOND FORM's CARD OF 'donjonlaw06.MoesiTwice'. -/
def moesiTwiceUptoCard : Claim7 := { stood := { row := moesiTwiceUptoRow, standIns := [], harness := (true, "4fc8d5771b5c06146a67aa3d97fcbf467512558b2f25d4bdb0bc57b298c24115"), looks := false }, kinds := [], alts := [], laidByText := true, laidKinds := [.data], laidTests := true, laidLooks := .later }
def MoesiTwiceUptoCardSaid : Prop := Claim7.holds Tryd.pinned (.plain (OpenSpec.upto moesiTwiceSpec)) moesiTwiceUptoCard

/-- THE SECOND FORM's CARD OF 'donjonlaw06.MoesiStores'. -/
def moesiStoresUptoCard : Claim7 := { stood := { row := moesiStoresUptoRow, standIns := [], harness := (true, "4fc8d5771b5c06146a67aa3d97fcbf467512558b2f25d4bdb0bc57b298c24115"), looks := false }, kinds := [], alts := [], laidByText := true, laidKinds := [.data], laidTests := true, laidLooks := .later }
def MoesiStoresUptoCardSaid : Prop := Claim7.holds Tryd.pinned (.plain (OpenSpec.upto moesiStoresSpec)) moesiStoresUptoCard

/-- THE SECOND FORM's CARD OF 'donjonlaw06.MoesiStates'. -/
def moesiStatesUptoCard : Claim7 := { stood := { row := moesiStatesUptoRow, standIns := [], harness := (true, "4fc8d5771b5c06146a67aa3d97fcbf467512558b2f25d4bdb0bc57b298c24115"), looks := false }, kinds := [], alts := [], laidByText := true, laidKinds := [.data], laidTests := true, laidLooks := .later }
def MoesiStatesUptoCardSaid : Prop := Claim7.holds Tryd.pinned (.plain (OpenSpec.upto moesiStatesSpec)) moesiStatesUptoCard
end Rows
end Go.Proofs.YtjlnoohfbkdlmaaDoor
