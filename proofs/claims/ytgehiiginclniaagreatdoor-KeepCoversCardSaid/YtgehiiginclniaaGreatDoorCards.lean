/-
  DERIVED. GIVEN WITH THE SEED: THE CARDS: each row of YtgehiiginclniaaGreatDoorRows.lean that lists a variable, with what it lists TIED to the program's text (the seventh form; the later family's looks); each row that meets fmt, with fmt's text TOLD by the authors' own Lean function (tested against real Go, not proved from fmt's source: count such statements apart). THE CARD IS WHAT COUNTS. Prove the row's statement (the work); the ties are given (YtgehiiginclniaaGreatDoorTie.lean); close each card by the builder's one call (the guide's Derived/Test/ToyasCard.lean, 'card_holds'). Laid BY PROGRAM, IN A SANDBOX (cutbox-door.mjs). By AI agents, Wed Nov 11 2026. No macro, syntax, notation, axiom, sorry.
-/
import Derived.Test.YtgehiiginclniaaGreatDoorRows
import GoSem.ClaimSeven
namespace Go.Proofs.YtgehiiginclniaaGreatDoor
namespace Rows

/-- THE TIED CARD OF 'fuseboxlaw19.JournalAgain'. -/
def journalAgainCard : Claim7 := { stood := { row := journalAgainRow, standIns := [], harness := (true, "d8690f3d99451ee76a50dbde1e95c61736daf4304cac55d77cc8d68025def9e3"), looks := true }, kinds := [], alts := [], laidByText := true, laidKinds := [.data, .data, .data, .sentinel, .sentinel], laidTests := true, laidLooks := .later }
def JournalAgainCardSaid : Prop := Claim7.holds Tryz.pinned (.plain (OpenSpec.ofChange journalAgainSpec)) journalAgainCard

/-- THE TIED CARD OF 'fuseboxlaw19.JournalRight'. -/
def journalRightCard : Claim7 := { stood := { row := journalRightRow, standIns := [], harness := (true, "d8690f3d99451ee76a50dbde1e95c61736daf4304cac55d77cc8d68025def9e3"), looks := true }, kinds := [], alts := [], laidByText := true, laidKinds := [.data, .data, .data, .sentinel, .sentinel], laidTests := true, laidLooks := .later }
def JournalRightCardSaid : Prop := Claim7.holds Tryz.pinned (.plain (OpenSpec.ofChange journalRightSpec)) journalRightCard

/-- THE TIED CARD OF 'fuseboxlaw19.JournalCut'. -/
def journalCutCard : Claim7 := { stood := { row := journalCutRow, standIns := [], harness := (true, "d8690f3d99451ee76a50dbde1e95c61736daf4304cac55d77cc8d68025def9e3"), looks := true }, kinds := [], alts := [], laidByText := true, laidKinds := [.data, .data, .data, .sentinel, .sentinel], laidTests := true, laidLooks := .later }
def JournalCutCardSaid : Prop := Claim7.holds Tryz.pinned (.plain (OpenSpec.ofChange journalCutSpec)) journalCutCard

/-- THE TIED CARD OF 'fuseboxlaw19.JournalLasts'. -/
def journalLastsCard : Claim7 := { stood := { row := journalLastsRow, standIns := [], harness := (true, "d8690f3d99451ee76a50dbde1e95c61736daf4304cac55d77cc8d68025def9e3"), looks := true }, kinds := [], alts := [], laidByText := true, laidKinds := [.data, .data, .data, .sentinel, .sentinel], laidTests := true, laidLooks := .later }
def JournalLastsCardSaid : Prop := Claim7.holds Tryz.pinned (.plain (OpenSpec.ofChange journalLastsSpec)) journalLastsCard

/-- THE TIED CARD OF 'fuseboxlaw19.JournalList'. -/
def journalListCard : Claim7 := { stood := { row := journalListRow, standIns := [], harness := (true, "d8690f3d99451ee76a50dbde1e95c61736daf4304cac55d77cc8d68025def9e3"), looks := true }, kinds := [], alts := [], laidByText := true, laidKinds := [.data, .data, .data, .sentinel, .sentinel], laidTests := true, laidLooks := .later }
def JournalListCardSaid : Prop := Claim7.holds Tryz.pinned (.plain (OpenSpec.ofChange journalListSpec)) journalListCard

/-- THE TIED CARD OF 'fuseboxlaw20.KeepRight'. -/
def keepRightCard : Claim7 := { stood := { row := keepRightRow, standIns := [], harness := (true, "d8690f3d99451ee76a50dbde1e95c61736daf4304cac55d77cc8d68025def9e3"), looks := true }, kinds := [], alts := [], laidByText := true, laidKinds := [.data, .data, .data, .sentinel, .sentinel], laidTests := true, laidLooks := .later }
def KeepRightCardSaid : Prop := Claim7.holds Tryz.pinned (.plain (OpenSpec.ofChange keepRightSpec)) keepRightCard

/-- THE TIED CARD OF 'fuseboxlaw20.KeepCovers'. -/
def keepCoversCard : Claim7 := { stood := { row := keepCoversRow, standIns := [], harness := (true, "d8690f3d99451ee76a50dbde1e95c61736daf4304cac55d77cc8d68025def9e3"), looks := true }, kinds := [], alts := [], laidByText := true, laidKinds := [.data, .data, .data, .sentinel, .sentinel], laidTests := true, laidLooks := .later }
def KeepCoversCardSaid : Prop := Claim7.holds Tryz.pinned (.plain (OpenSpec.ofChange keepCoversSpec)) keepCoversCard

/-- THE SECOND FORM's CARD OF 'fuseboxlaw19.JournalAgain'. -/
def journalAgainUptoCard : Claim7 := { stood := { row := journalAgainUptoRow, standIns := [], harness := (true, "d8690f3d99451ee76a50dbde1e95c61736daf4304cac55d77cc8d68025def9e3"), looks := true }, kinds := [], alts := [], laidByText := true, laidKinds := [.data, .data, .data, .sentinel, .sentinel], laidTests := true, laidLooks := .later }
def JournalAgainUptoCardSaid : Prop := Claim7.holds Tryz.pinned (.plain (OpenSpec.upto journalAgainSpec)) journalAgainUptoCard

/-- THE SECOND FORM's CARD OF 'fuseboxlaw19.JournalRight'. -/
def journalRightUptoCard : Claim7 := { stood := { row := journalRightUptoRow, standIns := [], harness := (true, "d8690f3d99451ee76a50dbde1e95c61736daf4304cac55d77cc8d68025def9e3"), looks := true }, kinds := [], alts := [], laidByText := true, laidKinds := [.data, .data, .data, .sentinel, .sentinel], laidTests := true, laidLooks := .later }
def JournalRightUptoCardSaid : Prop := Claim7.holds Tryz.pinned (.plain (OpenSpec.upto journalRightSpec)) journalRightUptoCard

/-- THE SECOND FORM's CARD OF 'fuseboxlaw19.JournalCut'. -/
def journalCutUptoCard : Claim7 := { stood := { row := journalCutUptoRow, standIns := [], harness := (true, "d8690f3d99451ee76a50dbde1e95c61736daf4304cac55d77cc8d68025def9e3"), looks := true }, kinds := [], alts := [], laidByText := true, laidKinds := [.data, .data, .data, .sentinel, .sentinel], laidTests := true, laidLooks := .later }
def JournalCutUptoCardSaid : Prop := Claim7.holds Tryz.pinned (.plain (OpenSpec.upto journalCutSpec)) journalCutUptoCard

/-- THE SECOND FORM's CARD OF 'fuseboxlaw19.JournalLasts'. -/
def journalLastsUptoCard : Claim7 := { stood := { row := journalLastsUptoRow, standIns := [], harness := (true, "d8690f3d99451ee76a50dbde1e95c61736daf4304cac55d77cc8d68025def9e3"), looks := true }, kinds := [], alts := [], laidByText := true, laidKinds := [.data, .data, .data, .sentinel, .sentinel], laidTests := true, laidLooks := .later }
def JournalLastsUptoCardSaid : Prop := Claim7.holds Tryz.pinned (.plain (OpenSpec.upto journalLastsSpec)) journalLastsUptoCard

/-- THE SECOND FORM's CARD OF 'fuseboxlaw19.JournalList'. -/
def journalListUptoCard : Claim7 := { stood := { row := journalListUptoRow, standIns := [], harness := (true, "d8690f3d99451ee76a50dbde1e95c61736daf4304cac55d77cc8d68025def9e3"), looks := true }, kinds := [], alts := [], laidByText := true, laidKinds := [.data, .data, .data, .sentinel, .sentinel], laidTests := true, laidLooks := .later }
def JournalListUptoCardSaid : Prop := Claim7.holds Tryz.pinned (.plain (OpenSpec.upto journalListSpec)) journalListUptoCard

/-- THE SECOND FORM's CARD OF 'fuseboxlaw20.KeepRight'. -/
def keepRightUptoCard : Claim7 := { stood := { row := keepRightUptoRow, standIns := [], harness := (true, "d8690f3d99451ee76a50dbde1e95c61736daf4304cac55d77cc8d68025def9e3"), looks := true }, kinds := [], alts := [], laidByText := true, laidKinds := [.data, .data, .data, .sentinel, .sentinel], laidTests := true, laidLooks := .later }
def KeepRightUptoCardSaid : Prop := Claim7.holds Tryz.pinned (.plain (OpenSpec.upto keepRightSpec)) keepRightUptoCard

/-- THE SECOND FORM's CARD OF 'fuseboxlaw20.KeepCovers'. -/
def keepCoversUptoCard : Claim7 := { stood := { row := keepCoversUptoRow, standIns := [], harness := (true, "d8690f3d99451ee76a50dbde1e95c61736daf4304cac55d77cc8d68025def9e3"), looks := true }, kinds := [], alts := [], laidByText := true, laidKinds := [.data, .data, .data, .sentinel, .sentinel], laidTests := true, laidLooks := .later }
def KeepCoversUptoCardSaid : Prop := Claim7.holds Tryz.pinned (.plain (OpenSpec.upto keepCoversSpec)) keepCoversUptoCard
end Rows
end Go.Proofs.YtgehiiginclniaaGreatDoor
