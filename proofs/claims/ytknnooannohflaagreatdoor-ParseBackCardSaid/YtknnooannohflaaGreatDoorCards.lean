/-
  DERIVED. GIVEN WITH THE SEED: THE CARDS: each row of YtknnooannohflaaGreatDoorRows.lean that lists a variable, with what it lists TIED to the program's text (the seventh form; the later family's looks); each row that meets fmt, with fmt's text TOLD by the authors' own Lean function (tested against real Go, not proved from fmt's source: count such statements apart). THE CARD IS WHAT COUNTS. Prove the row's statement (the work); the ties are given (YtknnooannohflaaGreatDoorTie.lean); close each card by the builder's one call (the guide's Derived/Test/ToyasCard.lean, 'card_holds'). Laid BY PROGRAM, IN A SANDBOX (cutbox-door.mjs). By AI agents, Wed Nov 11 2026. No macro, syntax, notation, axiom, sorry.
-/
import Derived.Test.YtknnooannohflaaGreatDoorRows
import GoSem.ClaimSeven
namespace Go.Proofs.YtknnooannohflaaGreatDoor
namespace Rows

/-- THE TIED CARD OF 'fuseboxlaw27.ExpoRight'. -/
def expoRightCard : Claim7 := { stood := { row := expoRightRow, standIns := [], harness := (true, "edac473f0e7d7b02c8ce2e1351e18ba367378f21f9eeebd41992edf6f5639d7d"), looks := true }, kinds := [], alts := [], laidByText := true, laidKinds := [.data, .data, .data, .data], laidTests := true, laidLooks := .later }
def ExpoRightCardSaid : Prop := Claim7.holds Tryz.pinned (.plain (OpenSpec.ofChange expoRightSpec)) expoRightCard

/-- THE TIED CARD OF 'fuseboxlaw27.ExpoEscapes'. -/
def expoEscapesCard : Claim7 := { stood := { row := expoEscapesRow, standIns := [], harness := (true, "edac473f0e7d7b02c8ce2e1351e18ba367378f21f9eeebd41992edf6f5639d7d"), looks := true }, kinds := [], alts := [], laidByText := true, laidKinds := [.data, .data, .data, .data], laidTests := true, laidLooks := .later }
def ExpoEscapesCardSaid : Prop := Claim7.holds Tryz.pinned (.plain (OpenSpec.ofChange expoEscapesSpec)) expoEscapesCard

/-- THE TIED CARD OF 'fuseboxlaw27.ExpoLines'. -/
def expoLinesCard : Claim7 := { stood := { row := expoLinesRow, standIns := [], harness := (true, "edac473f0e7d7b02c8ce2e1351e18ba367378f21f9eeebd41992edf6f5639d7d"), looks := true }, kinds := [], alts := [], laidByText := true, laidKinds := [.data, .data, .data, .data], laidTests := true, laidLooks := .later }
def ExpoLinesCardSaid : Prop := Claim7.holds Tryz.pinned (.plain (OpenSpec.ofChange expoLinesSpec)) expoLinesCard

/-- THE TIED CARD OF 'fuseboxlaw26.MetricRight'. -/
def metricRightCard : Claim7 := { stood := { row := metricRightRow, standIns := [], harness := (true, "edac473f0e7d7b02c8ce2e1351e18ba367378f21f9eeebd41992edf6f5639d7d"), looks := true }, kinds := [], alts := [], laidByText := true, laidKinds := [.data], laidTests := true, laidLooks := .later }
def MetricRightCardSaid : Prop := Claim7.holds Tryz.pinned (.plain (OpenSpec.ofChange metricRightSpec)) metricRightCard

/-- THE TIED CARD OF 'fuseboxlaw26.MetricHist'. -/
def metricHistCard : Claim7 := { stood := { row := metricHistRow, standIns := [], harness := (true, "edac473f0e7d7b02c8ce2e1351e18ba367378f21f9eeebd41992edf6f5639d7d"), looks := true }, kinds := [], alts := [], laidByText := true, laidKinds := [.data], laidTests := true, laidLooks := .later }
def MetricHistCardSaid : Prop := Claim7.holds Tryz.pinned (.plain (OpenSpec.ofChange metricHistSpec)) metricHistCard

/-- THE TIED CARD OF 'fuseboxlaw28.ParseBack'. -/
def parseBackCard : Claim7 := { stood := { row := parseBackRow, standIns := [], harness := (true, "edac473f0e7d7b02c8ce2e1351e18ba367378f21f9eeebd41992edf6f5639d7d"), looks := true }, kinds := [], alts := [], laidByText := true, laidKinds := [.data, .data, .data, .data, .data], laidTests := true, laidLooks := .later }
def ParseBackCardSaid : Prop := Claim7.holds Tryz.pinned (.plain (OpenSpec.ofChange parseBackSpec)) parseBackCard

/-- THE SECOND FORM's CARD OF 'fuseboxlaw27.ExpoRight'. -/
def expoRightUptoCard : Claim7 := { stood := { row := expoRightUptoRow, standIns := [], harness := (true, "edac473f0e7d7b02c8ce2e1351e18ba367378f21f9eeebd41992edf6f5639d7d"), looks := true }, kinds := [], alts := [], laidByText := true, laidKinds := [.data, .data, .data, .data], laidTests := true, laidLooks := .later }
def ExpoRightUptoCardSaid : Prop := Claim7.holds Tryz.pinned (.plain (OpenSpec.upto expoRightSpec)) expoRightUptoCard

/-- THE SECOND FORM's CARD OF 'fuseboxlaw27.ExpoEscapes'. -/
def expoEscapesUptoCard : Claim7 := { stood := { row := expoEscapesUptoRow, standIns := [], harness := (true, "edac473f0e7d7b02c8ce2e1351e18ba367378f21f9eeebd41992edf6f5639d7d"), looks := true }, kinds := [], alts := [], laidByText := true, laidKinds := [.data, .data, .data, .data], laidTests := true, laidLooks := .later }
def ExpoEscapesUptoCardSaid : Prop := Claim7.holds Tryz.pinned (.plain (OpenSpec.upto expoEscapesSpec)) expoEscapesUptoCard

/-- THE SECOND FORM's CARD OF 'fuseboxlaw27.ExpoLines'. -/
def expoLinesUptoCard : Claim7 := { stood := { row := expoLinesUptoRow, standIns := [], harness := (true, "edac473f0e7d7b02c8ce2e1351e18ba367378f21f9eeebd41992edf6f5639d7d"), looks := true }, kinds := [], alts := [], laidByText := true, laidKinds := [.data, .data, .data, .data], laidTests := true, laidLooks := .later }
def ExpoLinesUptoCardSaid : Prop := Claim7.holds Tryz.pinned (.plain (OpenSpec.upto expoLinesSpec)) expoLinesUptoCard

/-- THE SECOND FORM's CARD OF 'fuseboxlaw26.MetricRight'. -/
def metricRightUptoCard : Claim7 := { stood := { row := metricRightUptoRow, standIns := [], harness := (true, "edac473f0e7d7b02c8ce2e1351e18ba367378f21f9eeebd41992edf6f5639d7d"), looks := true }, kinds := [], alts := [], laidByText := true, laidKinds := [.data], laidTests := true, laidLooks := .later }
def MetricRightUptoCardSaid : Prop := Claim7.holds Tryz.pinned (.plain (OpenSpec.upto metricRightSpec)) metricRightUptoCard

/-- THE SECOND FORM's CARD OF 'fuseboxlaw26.MetricHist'. -/
def metricHistUptoCard : Claim7 := { stood := { row := metricHistUptoRow, standIns := [], harness := (true, "edac473f0e7d7b02c8ce2e1351e18ba367378f21f9eeebd41992edf6f5639d7d"), looks := true }, kinds := [], alts := [], laidByText := true, laidKinds := [.data], laidTests := true, laidLooks := .later }
def MetricHistUptoCardSaid : Prop := Claim7.holds Tryz.pinned (.plain (OpenSpec.upto metricHistSpec)) metricHistUptoCard

/-- THE SECOND FORM's CARD OF 'fuseboxlaw28.ParseBack'. -/
def parseBackUptoCard : Claim7 := { stood := { row := parseBackUptoRow, standIns := [], harness := (true, "edac473f0e7d7b02c8ce2e1351e18ba367378f21f9eeebd41992edf6f5639d7d"), looks := true }, kinds := [], alts := [], laidByText := true, laidKinds := [.data, .data, .data, .data, .data], laidTests := true, laidLooks := .later }
def ParseBackUptoCardSaid : Prop := Claim7.holds Tryz.pinned (.plain (OpenSpec.upto parseBackSpec)) parseBackUptoCard
end Rows
end Go.Proofs.YtknnooannohflaaGreatDoor
