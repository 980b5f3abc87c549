/-
  DERIVED. GIVEN WITH THE SEED: THE CARDS: each row of YtknnooannohflaaDoorRows.lean that lists a variable, with what it lists TIED to the program's text (the seventh form; the later family's looks); each row that meets fmt, with fmt's text TOLD by the authors' own Lean function (tested against real Go, not proved from fmt's source: count such statements apart). THE CARD IS WHAT COUNTS. Prove the row's statement (the work); the ties are given (YtknnooannohflaaDoorTie.lean); close each card by the builder's one call (the guide's Derived/Test/ToyasCard.lean, 'card_holds'). Laid BY PROGRAM, IN A SANDBOX (cutbox-door.mjs). By AI agents, Wed Nov 11 2026. No macro, syntax, notation, axiom, sorry.
-/
import Derived.Test.YtknnooannohflaaDoorRows
import GoSem.ClaimSeven
namespace Go.Proofs.YtknnooannohflaaDoor
namespace Rows

/-- THE TIED CARD OF 'fuseboxlaw28.ParseRight'. -/
def parseRightCard : Claim7 := { stood := { row := parseRightRow, standIns := [], harness := (true, "f5b5aa3336f33e16ce779869ba4af6fb98236fc0309cc450d5ee9021ef0a4f50"), looks := true }, kinds := [], alts := [], laidByText := true, laidKinds := [.data], laidTests := true, laidLooks := .later }
def ParseRightCardSaid : Prop := Claim7.holds Tryd.pinned (.plain (OpenSpec.ofChange parseRightSpec)) parseRightCard

/-- THE TIED CARD OF 'fuseboxlaw22.TermRight'. -/
def termRightCard : Claim7 := { stood := { row := termRightRow, standIns := [], harness := (true, "f5b5aa3336f33e16ce779869ba4af6fb98236fc0309cc450d5ee9021ef0a4f50"), looks := true }, kinds := [], alts := [], laidByText := true, laidKinds := [.data, .data, .data, .sentinel, .sentinel], laidTests := true, laidLooks := .later }
def TermRightCardSaid : Prop := Claim7.holds Tryd.pinned (.plain (OpenSpec.ofChange termRightSpec)) termRightCard

/-- THE TIED CARD OF 'fuseboxlaw22.TermWords'. -/
def termWordsCard : Claim7 := { stood := { row := termWordsRow, standIns := [], harness := (true, "f5b5aa3336f33e16ce779869ba4af6fb98236fc0309cc450d5ee9021ef0a4f50"), looks := true }, kinds := [], alts := [], laidByText := true, laidKinds := [.data, .data, .data, .sentinel, .sentinel], laidTests := true, laidLooks := .later }
def TermWordsCardSaid : Prop := Claim7.holds Tryd.pinned (.plain (OpenSpec.ofChange termWordsSpec)) termWordsCard

/-- THE TIED CARD OF 'fuseboxlaw22.TermBack'. -/
def termBackCard : Claim7 := { stood := { row := termBackRow, standIns := [], harness := (true, "f5b5aa3336f33e16ce779869ba4af6fb98236fc0309cc450d5ee9021ef0a4f50"), looks := true }, kinds := [], alts := [], laidByText := true, laidKinds := [.data, .data, .data, .sentinel, .sentinel], laidTests := true, laidLooks := .later }
def TermBackCardSaid : Prop := Claim7.holds Tryd.pinned (.plain (OpenSpec.ofChange termBackSpec)) termBackCard

/-- THE TIED CARD OF 'fuseboxlaw26.MetricGrows'. -/
def metricGrowsCard : Claim7 := { stood := { row := metricGrowsRow, standIns := [], harness := (true, "f5b5aa3336f33e16ce779869ba4af6fb98236fc0309cc450d5ee9021ef0a4f50"), looks := true }, kinds := [], alts := [], laidByText := true, laidKinds := [.data], laidTests := true, laidLooks := .later }
def MetricGrowsCardSaid : Prop := Claim7.holds Tryd.pinned (.plain (OpenSpec.ofChange metricGrowsSpec)) metricGrowsCard

/-- THE SECOND FORM's CARD OF 'fuseboxlaw28.ParseRight'. -/
def parseRightUptoCard : Claim7 := { stood := { row := parseRightUptoRow, standIns := [], harness := (true, "f5b5aa3336f33e16ce779869ba4af6fb98236fc0309cc450d5ee9021ef0a4f50"), looks := true }, kinds := [], alts := [], laidByText := true, laidKinds := [.data], laidTests := true, laidLooks := .later }
def ParseRightUptoCardSaid : Prop := Claim7.holds Tryd.pinned (.plain (OpenSpec.upto parseRightSpec)) parseRightUptoCard

/-- THE SECOND FORM's CARD OF 'fuseboxlaw22.TermRight'. -/
def termRightUptoCard : Claim7 := { stood := { row := termRightUptoRow, standIns := [], harness := (true, "f5b5aa3336f33e16ce779869ba4af6fb98236fc0309cc450d5ee9021ef0a4f50"), looks := true }, kinds := [], alts := [], laidByText := true, laidKinds := [.data, .data, .data, .sentinel, .sentinel], laidTests := true, laidLooks := .later }
def TermRightUptoCardSaid : Prop := Claim7.holds Tryd.pinned (.plain (OpenSpec.upto termRightSpec)) termRightUptoCard

/-- THE SECOND FORM's CARD OF 'fuseboxlaw22.TermWords'. -/
def termWordsUptoCard : Claim7 := { stood := { row := termWordsUptoRow, standIns := [], harness := (true, "f5b5aa3336f33e16ce779869ba4af6fb98236fc0309cc450d5ee9021ef0a4f50"), looks := true }, kinds := [], alts := [], laidByText := true, laidKinds := [.data, .data, .data, .sentinel, .sentinel], laidTests := true, laidLooks := .later }
def TermWordsUptoCardSaid : Prop := Claim7.holds Tryd.pinned (.plain (OpenSpec.upto termWordsSpec)) termWordsUptoCard

/-- THE SECOND FORM's CARD OF 'fuseboxlaw22.TermBack'. -/
def termBackUptoCard : Claim7 := { stood := { row := termBackUptoRow, standIns := [], harness := (true, "f5b5aa3336f33e16ce779869ba4af6fb98236fc0309cc450d5ee9021ef0a4f50"), looks := true }, kinds := [], alts := [], laidByText := true, laidKinds := [.data, .data, .data, .sentinel, .sentinel], laidTests := true, laidLooks := .later }
def TermBackUptoCardSaid : Prop := Claim7.holds Tryd.pinned (.plain (OpenSpec.upto termBackSpec)) termBackUptoCard

/-- THE SECOND FORM's CARD OF 'fuseboxlaw26.MetricGrows'. -/
def metricGrowsUptoCard : Claim7 := { stood := { row := metricGrowsUptoRow, standIns := [], harness := (true, "f5b5aa3336f33e16ce779869ba4af6fb98236fc0309cc450d5ee9021ef0a4f50"), looks := true }, kinds := [], alts := [], laidByText := true, laidKinds := [.data], laidTests := true, laidLooks := .later }
def MetricGrowsUptoCardSaid : Prop := Claim7.holds Tryd.pinned (.plain (OpenSpec.upto metricGrowsSpec)) metricGrowsUptoCard
end Rows
end Go.Proofs.YtknnooannohflaaDoor
