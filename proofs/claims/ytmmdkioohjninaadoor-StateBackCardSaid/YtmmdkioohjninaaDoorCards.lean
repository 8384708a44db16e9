/-
  DERIVED. GIVEN WITH THE SEED: THE CARDS: each row of YtmmdkioohjninaaDoorRows.lean that lists a variable, with what it lists TIED to the program's text (the seventh form; the later family's looks); each row that meets fmt, with fmt's text TOLD by the authors' own Lean function (tested against real Go, not proved from fmt's source: count such statements apart). THE CARD IS WHAT COUNTS. Prove the row's statement (the work); the ties are given (YtmmdkioohjninaaDoorTie.lean); close each card by the builder's one call (the guide's Derived/Test/ToyasCard.lean, 'card_holds'). Laid BY PROGRAM, IN A SANDBOX (cutbox-door.mjs). By AI agents, Wed Nov 11 2026. No macro, syntax, notation, axiom, sorry.
-/
import Derived.Test.YtmmdkioohjninaaDoorRows
import GoSem.ClaimSeven
namespace Go.Proofs.YtmmdkioohjninaaDoor
namespace Rows

/-- THE TIED CARD OF 'baliselaw13.StateOf'. -/
def stateOfCard : Claim7 := { stood := { row := stateOfRow, standIns := [], harness := (true, "25d46f7cb0e4a3e05f734d2a0872203df878913d5d2400ef83e975f5b2b7cacf"), looks := false }, kinds := [], alts := [], laidByText := true, laidKinds := [.data], laidTests := true, laidLooks := .later }
def StateOfCardSaid : Prop := Claim7.holds Tryd.pinned (.plain (OpenSpec.ofChange stateOfSpec)) stateOfCard

/-- THE TIED CARD OF 'baliselaw13.StateFree'. -/
def stateFreeCard : Claim7 := { stood := { row := stateFreeRow, standIns := [], harness := (true, "25d46f7cb0e4a3e05f734d2a0872203df878913d5d2400ef83e975f5b2b7cacf"), looks := false }, kinds := [], alts := [], laidByText := true, laidKinds := [.data], laidTests := true, laidLooks := .later }
def StateFreeCardSaid : Prop := Claim7.holds Tryd.pinned (.plain (OpenSpec.ofChange stateFreeSpec)) stateFreeCard

/-- THE TIED CARD OF 'baliselaw13.StateKinds'. -/
def stateKindsCard : Claim7 := { stood := { row := stateKindsRow, standIns := [], harness := (true, "25d46f7cb0e4a3e05f734d2a0872203df878913d5d2400ef83e975f5b2b7cacf"), looks := false }, kinds := [], alts := [], laidByText := true, laidKinds := [.data], laidTests := true, laidLooks := .later }
def StateKindsCardSaid : Prop := Claim7.holds Tryd.pinned (.plain (OpenSpec.ofChange stateKindsSpec)) stateKindsCard

/-- THE TIED CARD OF 'baliselaw13.StateViews'. -/
def stateViewsCard : Claim7 := { stood := { row := stateViewsRow, standIns := [], harness := (true, "25d46f7cb0e4a3e05f734d2a0872203df878913d5d2400ef83e975f5b2b7cacf"), looks := false }, kinds := [], alts := [], laidByText := true, laidKinds := [.data], laidTests := true, laidLooks := .later }
def StateViewsCardSaid : Prop := Claim7.holds Tryd.pinned (.plain (OpenSpec.ofChange stateViewsSpec)) stateViewsCard

/-- THE TIED CARD OF 'baliselaw13.StateStarts'. -/
def stateStartsCard : Claim7 := { stood := { row := stateStartsRow, standIns := [], harness := (true, "25d46f7cb0e4a3e05f734d2a0872203df878913d5d2400ef83e975f5b2b7cacf"), looks := false }, kinds := [], alts := [], laidByText := true, laidKinds := [.data], laidTests := true, laidLooks := .later }
def StateStartsCardSaid : Prop := Claim7.holds Tryd.pinned (.plain (OpenSpec.ofChange stateStartsSpec)) stateStartsCard

/-- THE TIED CARD OF 'baliselaw13.StateChanges'. -/
def stateChangesCard : Claim7 := { stood := { row := stateChangesRow, standIns := [], harness := (true, "25d46f7cb0e4a3e05f734d2a0872203df878913d5d2400ef83e975f5b2b7cacf"), looks := false }, kinds := [], alts := [], laidByText := true, laidKinds := [.data], laidTests := true, laidLooks := .later }
def StateChangesCardSaid : Prop := Claim7.holds Tryd.pinned (.plain (OpenSpec.ofChange stateChangesSpec)) stateChangesCard

/-- THE TIED CARD OF 'baliselaw13.StateBack'. -/
def stateBackCard : Claim7 := { stood := { row := stateBackRow, standIns := [], harness := (true, "25d46f7cb0e4a3e05f734d2a0872203df878913d5d2400ef83e975f5b2b7cacf"), looks := false }, kinds := [], alts := [], laidByText := true, laidKinds := [.data], laidTests := true, laidLooks := .later }
def StateBackCardSaid : Prop := Claim7.holds Tryd.pinned (.plain (OpenSpec.ofChange stateBackSpec)) stateBackCard

/-- THE SECOND FORM's CARD OF 'baliselaw13.StateOf'. -/
def stateOfUptoCard : Claim7 := { stood := { row := stateOfUptoRow, standIns := [], harness := (true, "25d46f7cb0e4a3e05f734d2a0872203df878913d5d2400ef83e975f5b2b7cacf"), looks := false }, kinds := [], alts := [], laidByText := true, laidKinds := [.data], laidTests := true, laidLooks := .later }
def StateOfUptoCardSaid : Prop := Claim7.holds Tryd.pinned (.plain (OpenSpec.upto stateOfSpec)) stateOfUptoCard

/-- THE SECOND FORM's CARD OF 'baliselaw13.StateFree'. -/
def stateFreeUptoCard : Claim7 := { stood := { row := stateFreeUptoRow, standIns := [], harness := (true, "25d46f7cb0e4a3e05f734d2a0872203df878913d5d2400ef83e975f5b2b7cacf"), looks := false }, kinds := [], alts := [], laidByText := true, laidKinds := [.data], laidTests := true, laidLooks := .later }
def StateFreeUptoCardSaid : Prop := Claim7.holds Tryd.pinned (.plain (OpenSpec.upto stateFreeSpec)) stateFreeUptoCard

/-- THE SECOND FORM's CARD OF 'baliselaw13.StateKinds'. -/
def stateKindsUptoCard : Claim7 := { stood := { row := stateKindsUptoRow, standIns := [], harness := (true, "25d46f7cb0e4a3e05f734d2a0872203df878913d5d2400ef83e975f5b2b7cacf"), looks := false }, kinds := [], alts := [], laidByText := true, laidKinds := [.data], laidTests := true, laidLooks := .later }
def StateKindsUptoCardSaid : Prop := Claim7.holds Tryd.pinned (.plain (OpenSpec.upto stateKindsSpec)) stateKindsUptoCard

/-- THE SECOND FORM's CARD OF 'baliselaw13.StateViews'. -/
def stateViewsUptoCard : Claim7 := { stood := { row := stateViewsUptoRow, standIns := [], harness := (true, "25d46f7cb0e4a3e05f734d2a0872203df878913d5d2400ef83e975f5b2b7cacf"), looks := false }, kinds := [], alts := [], laidByText := true, laidKinds := [.data], laidTests := true, laidLooks := .later }
def StateViewsUptoCardSaid : Prop := Claim7.holds Tryd.pinned (.plain (OpenSpec.upto stateViewsSpec)) stateViewsUptoCard

/-- THE SECOND FORM's CARD OF 'baliselaw13.StateStarts'. -/
def stateStartsUptoCard : Claim7 := { stood := { row := stateStartsUptoRow, standIns := [], harness := (true, "25d46f7cb0e4a3e05f734d2a0872203df878913d5d2400ef83e975f5b2b7cacf"), looks := false }, kinds := [], alts := [], laidByText := true, laidKinds := [.data], laidTests := true, laidLooks := .later }
def StateStartsUptoCardSaid : Prop := Claim7.holds Tryd.pinned (.plain (OpenSpec.upto stateStartsSpec)) stateStartsUptoCard

/-- THE SECOND FORM's CARD OF 'baliselaw13.StateChanges'. -/
def stateChangesUptoCard : Claim7 := { stood := { row := stateChangesUptoRow, standIns := [], harness := (true, "25d46f7cb0e4a3e05f734d2a0872203df878913d5d2400ef83e975f5b2b7cacf"), looks := false }, kinds := [], alts := [], laidByText := true, laidKinds := [.data], laidTests := true, laidLooks := .later }
def StateChangesUptoCardSaid : Prop := Claim7.holds Tryd.pinned (.plain (OpenSpec.upto stateChangesSpec)) stateChangesUptoCard

/-- THE SECOND FORM's CARD OF 'baliselaw13.StateBack'. -/
def stateBackUptoCard : Claim7 := { stood := { row := stateBackUptoRow, standIns := [], harness := (true, "25d46f7cb0e4a3e05f734d2a0872203df878913d5d2400ef83e975f5b2b7cacf"), looks := false }, kinds := [], alts := [], laidByText := true, laidKinds := [.data], laidTests := true, laidLooks := .later }
def StateBackUptoCardSaid : Prop := Claim7.holds Tryd.pinned (.plain (OpenSpec.upto stateBackSpec)) stateBackUptoCard
end Rows
end Go.Proofs.YtmmdkioohjninaaDoor
