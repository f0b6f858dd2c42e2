/-
  DERIVED. GIVEN WITH THE SEED: THE CARDS: each row of YtppdanlhccpajaaGreatDoorRows.lean that lists a variable, with what it lists TIED to the program's text (the seventh form; the later family's looks); each row that meets fmt, with fmt's text TOLD by the authors' own Lean function (tested against real Go, not proved from fmt's source: count such statements apart). THE CARD IS WHAT COUNTS. Prove the row's statement (the work); the ties are given (YtppdanlhccpajaaGreatDoorTie.lean); close each card by the builder's one call (the guide's Derived/Test/ToyasCard.lean, 'card_holds'). Laid BY PROGRAM, IN A SANDBOX (cutbox-door.mjs). By AI agents, Wed Nov 11 2026. No macro, syntax, notation, axiom, sorry.
-/
import Derived.Test.YtppdanlhccpajaaGreatDoorRows
import GoSem.ClaimSeven
namespace Go.Proofs.YtppdanlhccpajaaGreatDoor
namespace Rows

/-- THE TIED CARD OF 'pendulelaw09.ClocksPaths'. -/
def clocksPathsCard : Claim7 := { stood := { row := clocksPathsRow, standIns := [], harness := (true, "cf52e307127dbda0c091ad52cc63e3f8a9cdd951a85c72a2e2863160de59ce47"), looks := true }, kinds := [], alts := [], laidByText := true, laidKinds := [.data, .data, .data, .sentinel, .sentinel], laidTests := true, laidLooks := .later }
def ClocksPathsCardSaid : Prop := Claim7.holds Tryz.pinned (.plain (OpenSpec.ofChange clocksPathsSpec)) clocksPathsCard

/-- THE TIED CARD OF 'pendulelaw09.ClocksFirst'. -/
def clocksFirstCard : Claim7 := { stood := { row := clocksFirstRow, standIns := [], harness := (true, "cf52e307127dbda0c091ad52cc63e3f8a9cdd951a85c72a2e2863160de59ce47"), looks := true }, kinds := [], alts := [], laidByText := true, laidKinds := [.data, .data, .data, .sentinel, .sentinel], laidTests := true, laidLooks := .later }
def ClocksFirstCardSaid : Prop := Claim7.holds Tryz.pinned (.plain (OpenSpec.ofChange clocksFirstSpec)) clocksFirstCard

/-- THE TIED CARD OF 'pendulelaw09.ClocksBase'. -/
def clocksBaseCard : Claim7 := { stood := { row := clocksBaseRow, standIns := [], harness := (true, "cf52e307127dbda0c091ad52cc63e3f8a9cdd951a85c72a2e2863160de59ce47"), looks := true }, kinds := [], alts := [], laidByText := true, laidKinds := [.data, .data, .data, .sentinel, .sentinel], laidTests := true, laidLooks := .later }
def ClocksBaseCardSaid : Prop := Claim7.holds Tryz.pinned (.plain (OpenSpec.ofChange clocksBaseSpec)) clocksBaseCard

/-- THE TIED CARD OF 'pendulelaw11.CauseChecks'. -/
def causeChecksCard : Claim7 := { stood := { row := causeChecksRow, standIns := [], harness := (true, "cf52e307127dbda0c091ad52cc63e3f8a9cdd951a85c72a2e2863160de59ce47"), looks := true }, kinds := [], alts := [], laidByText := true, laidKinds := [.data, .data, .data, .sentinel, .sentinel], laidTests := true, laidLooks := .later }
def CauseChecksCardSaid : Prop := Claim7.holds Tryz.pinned (.plain (OpenSpec.ofChange causeChecksSpec)) causeChecksCard

/-- THE TIED CARD OF 'pendulelaw11.CauseReads'. -/
def causeReadsCard : Claim7 := { stood := { row := causeReadsRow, standIns := [], harness := (true, "cf52e307127dbda0c091ad52cc63e3f8a9cdd951a85c72a2e2863160de59ce47"), looks := true }, kinds := [], alts := [], laidByText := true, laidKinds := [.data, .data, .data, .sentinel, .sentinel], laidTests := true, laidLooks := .later }
def CauseReadsCardSaid : Prop := Claim7.holds Tryz.pinned (.plain (OpenSpec.ofChange causeReadsSpec)) causeReadsCard

/-- THE TIED CARD OF 'pendulelaw11.CauseOrders'. -/
def causeOrdersCard : Claim7 := { stood := { row := causeOrdersRow, standIns := [], harness := (true, "cf52e307127dbda0c091ad52cc63e3f8a9cdd951a85c72a2e2863160de59ce47"), looks := true }, kinds := [], alts := [], laidByText := true, laidKinds := [.data, .data, .data, .sentinel, .sentinel], laidTests := true, laidLooks := .later }
def CauseOrdersCardSaid : Prop := Claim7.holds Tryz.pinned (.plain (OpenSpec.ofChange causeOrdersSpec)) causeOrdersCard

/-- THE TIED CARD OF 'pendulelaw11.CauseStands'. -/
def causeStandsCard : Claim7 := { stood := { row := causeStandsRow, standIns := [], harness := (true, "cf52e307127dbda0c091ad52cc63e3f8a9cdd951a85c72a2e2863160de59ce47"), looks := true }, kinds := [], alts := [], laidByText := true, laidKinds := [.data, .data, .data, .sentinel, .sentinel], laidTests := true, laidLooks := .later }
def CauseStandsCardSaid : Prop := Claim7.holds Tryz.pinned (.plain (OpenSpec.ofChange causeStandsSpec)) causeStandsCard

/-- THE TIED CARD OF 'pendulelaw11.CauseBoth'. -/
def causeBothCard : Claim7 := { stood := { row := causeBothRow, standIns := [], harness := (true, "cf52e307127dbda0c091ad52cc63e3f8a9cdd951a85c72a2e2863160de59ce47"), looks := true }, kinds := [], alts := [], laidByText := true, laidKinds := [.data, .data, .data, .sentinel, .sentinel], laidTests := true, laidLooks := .later }
def CauseBothCardSaid : Prop := Claim7.holds Tryz.pinned (.plain (OpenSpec.ofChange causeBothSpec)) causeBothCard

/-- THE TIED CARD OF 'pendulelaw11.CauseDelays'. -/
def causeDelaysCard : Claim7 := { stood := { row := causeDelaysRow, standIns := [], harness := (true, "cf52e307127dbda0c091ad52cc63e3f8a9cdd951a85c72a2e2863160de59ce47"), looks := true }, kinds := [], alts := [], laidByText := true, laidKinds := [.data, .data, .data, .sentinel, .sentinel], laidTests := true, laidLooks := .later }
def CauseDelaysCardSaid : Prop := Claim7.holds Tryz.pinned (.plain (OpenSpec.ofChange causeDelaysSpec)) causeDelaysCard

/-- THE TIED CARD OF 'pendulelaw11.CauseLater'. -/
def causeLaterCard : Claim7 := { stood := { row := causeLaterRow, standIns := [], harness := (true, "cf52e307127dbda0c091ad52cc63e3f8a9cdd951a85c72a2e2863160de59ce47"), looks := true }, kinds := [], alts := [], laidByText := true, laidKinds := [.data, .data, .data, .sentinel, .sentinel], laidTests := true, laidLooks := .later }
def CauseLaterCardSaid : Prop := Claim7.holds Tryz.pinned (.plain (OpenSpec.ofChange causeLaterSpec)) causeLaterCard

/-- THE TIED CARD OF 'pendulelaw09.ClocksSample'. -/
def clocksSampleCard : Claim7 := { stood := { row := clocksSampleRow, standIns := [], harness := (true, "cf52e307127dbda0c091ad52cc63e3f8a9cdd951a85c72a2e2863160de59ce47"), looks := true }, kinds := [], alts := [], laidByText := true, laidKinds := [.data, .data, .data, .sentinel, .sentinel], laidTests := true, laidLooks := .later }
def ClocksSampleCardSaid : Prop := Claim7.holds Tryz.pinned (.plain (OpenSpec.ofChange clocksSampleSpec)) clocksSampleCard

/-- THE SECOND FORM's CARD OF 'pendulelaw09.ClocksPaths'. -/
def clocksPathsUptoCard : Claim7 := { stood := { row := clocksPathsUptoRow, standIns := [], harness := (true, "cf52e307127dbda0c091ad52cc63e3f8a9cdd951a85c72a2e2863160de59ce47"), looks := true }, kinds := [], alts := [], laidByText := true, laidKinds := [.data, .data, .data, .sentinel, .sentinel], laidTests := true, laidLooks := .later }
def ClocksPathsUptoCardSaid : Prop := Claim7.holds Tryz.pinned (.plain (OpenSpec.upto clocksPathsSpec)) clocksPathsUptoCard

/-- THE SECOND FORM's CARD OF 'pendulelaw09.ClocksFirst'. -/
def clocksFirstUptoCard : Claim7 := { stood := { row := clocksFirstUptoRow, standIns := [], harness := (true, "cf52e307127dbda0c091ad52cc63e3f8a9cdd951a85c72a2e2863160de59ce47"), looks := true }, kinds := [], alts := [], laidByText := true, laidKinds := [.data, .data, .data, .sentinel, .sentinel], laidTests := true, laidLooks := .later }
def ClocksFirstUptoCardSaid : Prop := Claim7.holds Tryz.pinned (.plain (OpenSpec.upto clocksFirstSpec)) clocksFirstUptoCard

/-- THE SECOND FORM's CARD OF 'pendulelaw09.ClocksBase'. -/
def clocksBaseUptoCard : Claim7 := { stood := { row := clocksBaseUptoRow, standIns := [], harness := (true, "cf52e307127dbda0c091ad52cc63e3f8a9cdd951a85c72a2e2863160de59ce47"), looks := true }, kinds := [], alts := [], laidByText := true, laidKinds := [.data, .data, .data, .sentinel, .sentinel], laidTests := true, laidLooks := .later }
def ClocksBaseUptoCardSaid : Prop := Claim7.holds Tryz.pinned (.plain (OpenSpec.upto clocksBaseSpec)) clocksBaseUptoCard

/-- THE SECOND FORM's CARD OF 'pendulelaw11.CauseChecks'. -/
def causeChecksUptoCard : Claim7 := { stood := { row := causeChecksUptoRow, standIns := [], harness := (true, "cf52e307127dbda0c091ad52cc63e3f8a9cdd951a85c72a2e2863160de59ce47"), looks := true }, kinds := [], alts := [], laidByText := true, laidKinds := [.data, .data, .data, .sentinel, .sentinel], laidTests := true, laidLooks := .later }
def CauseChecksUptoCardSaid : Prop := Claim7.holds Tryz.pinned (.plain (OpenSpec.upto causeChecksSpec)) causeChecksUptoCard

/-- THE SECOND FORM's CARD OF 'pendulelaw11.CauseReads'. -/
def causeReadsUptoCard : Claim7 := { stood := { row := causeReadsUptoRow, standIns := [], harness := (true, "cf52e307127dbda0c091ad52cc63e3f8a9cdd951a85c72a2e2863160de59ce47"), looks := true }, kinds := [], alts := [], laidByText := true, laidKinds := [.data, .data, .data, .sentinel, .sentinel], laidTests := true, laidLooks := .later }
def CauseReadsUptoCardSaid : Prop := Claim7.holds Tryz.pinned (.plain (OpenSpec.upto causeReadsSpec)) causeReadsUptoCard

/-- THE SECOND FORM's CARD OF 'pendulelaw11.CauseOrders'. -/
def causeOrdersUptoCard : Claim7 := { stood := { row := causeOrdersUptoRow, standIns := [], harness := (true, "cf52e307127dbda0c091ad52cc63e3f8a9cdd951a85c72a2e2863160de59ce47"), looks := true }, kinds := [], alts := [], laidByText := true, laidKinds := [.data, .data, .data, .sentinel, .sentinel], laidTests := true, laidLooks := .later }
def CauseOrdersUptoCardSaid : Prop := Claim7.holds Tryz.pinned (.plain (OpenSpec.upto causeOrdersSpec)) causeOrdersUptoCard

/-- THE SECOND FORM's CARD OF 'pendulelaw11.CauseStands'. -/
def causeStandsUptoCard : Claim7 := { stood := { row := causeStandsUptoRow, standIns := [], harness := (true, "cf52e307127dbda0c091ad52cc63e3f8a9cdd951a85c72a2e2863160de59ce47"), looks := true }, kinds := [], alts := [], laidByText := true, laidKinds := [.data, .data, .data, .sentinel, .sentinel], laidTests := true, laidLooks := .later }
def CauseStandsUptoCardSaid : Prop := Claim7.holds Tryz.pinned (.plain (OpenSpec.upto causeStandsSpec)) causeStandsUptoCard

/-- THE SECOND FORM's CARD OF 'pendulelaw11.CauseBoth'. -/
def causeBothUptoCard : Claim7 := { stood := { row := causeBothUptoRow, standIns := [], harness := (true, "cf52e307127dbda0c091ad52cc63e3f8a9cdd951a85c72a2e2863160de59ce47"), looks := true }, kinds := [], alts := [], laidByText := true, laidKinds := [.data, .data, .data, .sentinel, .sentinel], laidTests := true, laidLooks := .later }
def CauseBothUptoCardSaid : Prop := Claim7.holds Tryz.pinned (.plain (OpenSpec.upto causeBothSpec)) causeBothUptoCard

/-- THE SECOND FORM's CARD OF 'pendulelaw11.CauseDelays'. -/
def causeDelaysUptoCard : Claim7 := { stood := { row := causeDelaysUptoRow, standIns := [], harness := (true, "cf52e307127dbda0c091ad52cc63e3f8a9cdd951a85c72a2e2863160de59ce47"), looks := true }, kinds := [], alts := [], laidByText := true, laidKinds := [.data, .data, .data, .sentinel, .sentinel], laidTests := true, laidLooks := .later }
def CauseDelaysUptoCardSaid : Prop := Claim7.holds Tryz.pinned (.plain (OpenSpec.upto causeDelaysSpec)) causeDelaysUptoCard

/-- THE SECOND FORM's CARD OF 'pendulelaw11.CauseLater'. -/
def causeLaterUptoCard : Claim7 := { stood := { row := causeLaterUptoRow, standIns := [], harness := (true, "cf52e307127dbda0c091ad52cc63e3f8a9cdd951a85c72a2e2863160de59ce47"), looks := true }, kinds := [], alts := [], laidByText := true, laidKinds := [.data, .data, .data, .sentinel, .sentinel], laidTests := true, laidLooks := .later }
def CauseLaterUptoCardSaid : Prop := Claim7.holds Tryz.pinned (.plain (OpenSpec.upto causeLaterSpec)) causeLaterUptoCard

/-- THE SECOND FORM's CARD OF 'pendulelaw09.ClocksSample'. -/
def clocksSampleUptoCard : Claim7 := { stood := { row := clocksSampleUptoRow, standIns := [], harness := (true, "cf52e307127dbda0c091ad52cc63e3f8a9cdd951a85c72a2e2863160de59ce47"), looks := true }, kinds := [], alts := [], laidByText := true, laidKinds := [.data, .data, .data, .sentinel, .sentinel], laidTests := true, laidLooks := .later }
def ClocksSampleUptoCardSaid : Prop := Claim7.holds Tryz.pinned (.plain (OpenSpec.upto clocksSampleSpec)) clocksSampleUptoCard
end Rows
end Go.Proofs.YtppdanlhccpajaaGreatDoor
