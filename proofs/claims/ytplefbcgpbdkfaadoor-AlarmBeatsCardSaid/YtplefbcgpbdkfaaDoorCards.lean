/-
  DERIVED. GIVEN WITH THE SEED: THE CARDS: each row of YtplefbcgpbdkfaaDoorRows.lean that lists a variable, with what it lists TIED to the program's text (the seventh form; the later family's looks); each row that meets fmt, with fmt's text TOLD by the authors' own Lean function (tested against real Go, not proved from fmt's source: count such statements apart). THE CARD IS WHAT COUNTS. Prove the row's statement (the work); the ties are given (YtplefbcgpbdkfaaDoorTie.lean); close each card by the builder's one call (the guide's Derived/Test/ToyasCard.lean, 'card_holds'). Laid BY PROGRAM, IN A SANDBOX (cutbox-door.mjs). By AI agents, Wed Nov 11 2026. No macro, syntax, notation, axiom, sorry.
-/
import Derived.Test.YtplefbcgpbdkfaaDoorRows
import GoSem.ClaimSeven
namespace Go.Proofs.YtplefbcgpbdkfaaDoor
namespace Rows

/-- THE TIED CARD OF 'nightjarlaw08.AlarmPlays'. -/
def alarmPlaysCard : Claim7 := { stood := { row := alarmPlaysRow, standIns := [], harness := (true, "3a02e29e3b0c33c5a0fe985bdd6831eedcb6f3b33517c4291dff9e05887cec17"), looks := false }, kinds := [], alts := [], laidByText := true, laidKinds := [.data], laidTests := true, laidLooks := .later }
def AlarmPlaysCardSaid : Prop := Claim7.holds Tryd.pinned (.plain (OpenSpec.ofChange alarmPlaysSpec)) alarmPlaysCard

/-- THE TIED CARD OF 'nightjarlaw08.AlarmBeats'. -/
def alarmBeatsCard : Claim7 := { stood := { row := alarmBeatsRow, standIns := [], harness := (true, "3a02e29e3b0c33c5a0fe985bdd6831eedcb6f3b33517c4291dff9e05887cec17"), looks := false }, kinds := [], alts := [], laidByText := true, laidKinds := [.data], laidTests := true, laidLooks := .later }
def AlarmBeatsCardSaid : Prop := Claim7.holds Tryd.pinned (.plain (OpenSpec.ofChange alarmBeatsSpec)) alarmBeatsCard

/-- THE TIED CARD OF 'nightjarlaw08.AlarmOrders'. -/
def alarmOrdersCard : Claim7 := { stood := { row := alarmOrdersRow, standIns := [], harness := (true, "3a02e29e3b0c33c5a0fe985bdd6831eedcb6f3b33517c4291dff9e05887cec17"), looks := false }, kinds := [], alts := [], laidByText := true, laidKinds := [.data], laidTests := true, laidLooks := .later }
def AlarmOrdersCardSaid : Prop := Claim7.holds Tryd.pinned (.plain (OpenSpec.ofChange alarmOrdersSpec)) alarmOrdersCard

/-- THE TIED CARD OF 'nightjarlaw08.AlarmStops'. -/
def alarmStopsCard : Claim7 := { stood := { row := alarmStopsRow, standIns := [], harness := (true, "3a02e29e3b0c33c5a0fe985bdd6831eedcb6f3b33517c4291dff9e05887cec17"), looks := false }, kinds := [], alts := [], laidByText := true, laidKinds := [.data], laidTests := true, laidLooks := .later }
def AlarmStopsCardSaid : Prop := Claim7.holds Tryd.pinned (.plain (OpenSpec.ofChange alarmStopsSpec)) alarmStopsCard

/-- THE TIED CARD OF 'nightjarlaw08.AlarmApart'. -/
def alarmApartCard : Claim7 := { stood := { row := alarmApartRow, standIns := [], harness := (true, "3a02e29e3b0c33c5a0fe985bdd6831eedcb6f3b33517c4291dff9e05887cec17"), looks := false }, kinds := [], alts := [], laidByText := true, laidKinds := [.data], laidTests := true, laidLooks := .later }
def AlarmApartCardSaid : Prop := Claim7.holds Tryd.pinned (.plain (OpenSpec.ofChange alarmApartSpec)) alarmApartCard

/-- THE SECOND FORM's CARD OF 'nightjarlaw08.AlarmPlays'. -/
def alarmPlaysUptoCard : Claim7 := { stood := { row := alarmPlaysUptoRow, standIns := [], harness := (true, "3a02e29e3b0c33c5a0fe985bdd6831eedcb6f3b33517c4291dff9e05887cec17"), looks := false }, kinds := [], alts := [], laidByText := true, laidKinds := [.data], laidTests := true, laidLooks := .later }
def AlarmPlaysUptoCardSaid : Prop := Claim7.holds Tryd.pinned (.plain (OpenSpec.upto alarmPlaysSpec)) alarmPlaysUptoCard

/-- THE SECOND FORM's CARD OF 'nightjarlaw08.AlarmBeats'. -/
def alarmBeatsUptoCard : Claim7 := { stood := { row := alarmBeatsUptoRow, standIns := [], harness := (true, "3a02e29e3b0c33c5a0fe985bdd6831eedcb6f3b33517c4291dff9e05887cec17"), looks := false }, kinds := [], alts := [], laidByText := true, laidKinds := [.data], laidTests := true, laidLooks := .later }
def AlarmBeatsUptoCardSaid : Prop := Claim7.holds Tryd.pinned (.plain (OpenSpec.upto alarmBeatsSpec)) alarmBeatsUptoCard

/-- THE SECOND FORM's CARD OF 'nightjarlaw08.AlarmOrders'. -/
def alarmOrdersUptoCard : Claim7 := { stood := { row := alarmOrdersUptoRow, standIns := [], harness := (true, "3a02e29e3b0c33c5a0fe985bdd6831eedcb6f3b33517c4291dff9e05887cec17"), looks := false }, kinds := [], alts := [], laidByText := true, laidKinds := [.data], laidTests := true, laidLooks := .later }
def AlarmOrdersUptoCardSaid : Prop := Claim7.holds Tryd.pinned (.plain (OpenSpec.upto alarmOrdersSpec)) alarmOrdersUptoCard

/-- THE SECOND FORM's CARD OF 'nightjarlaw08.AlarmStops'. -/
def alarmStopsUptoCard : Claim7 := { stood := { row := alarmStopsUptoRow, standIns := [], harness := (true, "3a02e29e3b0c33c5a0fe985bdd6831eedcb6f3b33517c4291dff9e05887cec17"), looks := false }, kinds := [], alts := [], laidByText := true, laidKinds := [.data], laidTests := true, laidLooks := .later }
def AlarmStopsUptoCardSaid : Prop := Claim7.holds Tryd.pinned (.plain (OpenSpec.upto alarmStopsSpec)) alarmStopsUptoCard

/-- THE SECOND FORM's CARD OF 'nightjarlaw08.AlarmApart'. -/
def alarmApartUptoCard : Claim7 := { stood := { row := alarmApartUptoRow, standIns := [], harness := (true, "3a02e29e3b0c33c5a0fe985bdd6831eedcb6f3b33517c4291dff9e05887cec17"), looks := false }, kinds := [], alts := [], laidByText := true, laidKinds := [.data], laidTests := true, laidLooks := .later }
def AlarmApartUptoCardSaid : Prop := Claim7.holds Tryd.pinned (.plain (OpenSpec.upto alarmApartSpec)) alarmApartUptoCard
end Rows
end Go.Proofs.YtplefbcgpbdkfaaDoor
