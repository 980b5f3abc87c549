/-
  DERIVED. GIVEN WITH THE SEED: THE CARDS: each row of YtbocfphenkidnaaGreatDoorRows.lean that lists a variable, with what it lists TIED to the program's text (the seventh form; the later family's looks); each row that meets fmt, with fmt's text TOLD by the authors' own Lean function (tested against real Go, not proved from fmt's source: count such statements apart). THE CARD IS WHAT COUNTS. Prove the row's statement (the work); the ties are given (YtbocfphenkidnaaGreatDoorTie.lean); close each card by the builder's one call (the guide's Derived/Test/ToyasCard.lean, 'card_holds'). Laid BY PROGRAM, IN A SANDBOX (cutbox-door.mjs). By AI agents, Wed Nov 11 2026. No macro, syntax, notation, axiom, sorry.
-/
import Derived.Test.YtbocfphenkidnaaGreatDoorRows
import GoSem.ClaimSeven
namespace Go.Proofs.YtbocfphenkidnaaGreatDoor
namespace Rows

/-- THE TIED CARD OF 'fuseboxlaw09.SegmentRight'. -/
def segmentRightCard : Claim7 := { stood := { row := segmentRightRow, standIns := [], harness := (true, "96948d75cde322ef8d19ffed346770dc2a0662f5d83998f76be1e3f675a3addf"), looks := false }, kinds := [], alts := [], laidByText := true, laidKinds := [.data, .data, .data], laidTests := true, laidLooks := .later }
def SegmentRightCardSaid : Prop := Claim7.holds Tryz.pinned (.plain (OpenSpec.ofChange segmentRightSpec)) segmentRightCard

/-- THE TIED CARD OF 'fuseboxlaw17.SnapRight'. -/
def snapRightCard : Claim7 := { stood := { row := snapRightRow, standIns := [], harness := (true, "96948d75cde322ef8d19ffed346770dc2a0662f5d83998f76be1e3f675a3addf"), looks := false }, kinds := [], alts := [], laidByText := true, laidKinds := [.data, .data, .data], laidTests := true, laidLooks := .later }
def SnapRightCardSaid : Prop := Claim7.holds Tryz.pinned (.plain (OpenSpec.ofChange snapRightSpec)) snapRightCard

/-- THE TIED CARD OF 'fuseboxlaw17.SnapBack'. -/
def snapBackCard : Claim7 := { stood := { row := snapBackRow, standIns := [], harness := (true, "96948d75cde322ef8d19ffed346770dc2a0662f5d83998f76be1e3f675a3addf"), looks := false }, kinds := [], alts := [], laidByText := true, laidKinds := [.data, .data, .data], laidTests := true, laidLooks := .later }
def SnapBackCardSaid : Prop := Claim7.holds Tryz.pinned (.plain (OpenSpec.ofChange snapBackSpec)) snapBackCard

/-- THE TIED CARD OF 'fuseboxlaw17.SnapKeeps'. -/
def snapKeepsCard : Claim7 := { stood := { row := snapKeepsRow, standIns := [], harness := (true, "96948d75cde322ef8d19ffed346770dc2a0662f5d83998f76be1e3f675a3addf"), looks := false }, kinds := [], alts := [], laidByText := true, laidKinds := [.data, .data, .data], laidTests := true, laidLooks := .later }
def SnapKeepsCardSaid : Prop := Claim7.holds Tryz.pinned (.plain (OpenSpec.ofChange snapKeepsSpec)) snapKeepsCard

/-- THE SECOND FORM's CARD OF 'fuseboxlaw09.SegmentRight'. -/
def segmentRightUptoCard : Claim7 := { stood := { row := segmentRightUptoRow, standIns := [], harness := (true, "96948d75cde322ef8d19ffed346770dc2a0662f5d83998f76be1e3f675a3addf"), looks := false }, kinds := [], alts := [], laidByText := true, laidKinds := [.data, .data, .data], laidTests := true, laidLooks := .later }
def SegmentRightUptoCardSaid : Prop := Claim7.holds Tryz.pinned (.plain (OpenSpec.upto segmentRightSpec)) segmentRightUptoCard

/-- THE SECOND FORM's CARD OF 'fuseboxlaw17.SnapRight'. -/
def snapRightUptoCard : Claim7 := { stood := { row := snapRightUptoRow, standIns := [], harness := (true, "96948d75cde322ef8d19ffed346770dc2a0662f5d83998f76be1e3f675a3addf"), looks := false }, kinds := [], alts := [], laidByText := true, laidKinds := [.data, .data, .data], laidTests := true, laidLooks := .later }
def SnapRightUptoCardSaid : Prop := Claim7.holds Tryz.pinned (.plain (OpenSpec.upto snapRightSpec)) snapRightUptoCard

/-- THE SECOND FORM's CARD OF 'fuseboxlaw17.SnapBack'. -/
def snapBackUptoCard : Claim7 := { stood := { row := snapBackUptoRow, standIns := [], harness := (true, "96948d75cde322ef8d19ffed346770dc2a0662f5d83998f76be1e3f675a3addf"), looks := false }, kinds := [], alts := [], laidByText := true, laidKinds := [.data, .data, .data], laidTests := true, laidLooks := .later }
def SnapBackUptoCardSaid : Prop := Claim7.holds Tryz.pinned (.plain (OpenSpec.upto snapBackSpec)) snapBackUptoCard

/-- THE SECOND FORM's CARD OF 'fuseboxlaw17.SnapKeeps'. -/
def snapKeepsUptoCard : Claim7 := { stood := { row := snapKeepsUptoRow, standIns := [], harness := (true, "96948d75cde322ef8d19ffed346770dc2a0662f5d83998f76be1e3f675a3addf"), looks := false }, kinds := [], alts := [], laidByText := true, laidKinds := [.data, .data, .data], laidTests := true, laidLooks := .later }
def SnapKeepsUptoCardSaid : Prop := Claim7.holds Tryz.pinned (.plain (OpenSpec.upto snapKeepsSpec)) snapKeepsUptoCard
end Rows
end Go.Proofs.YtbocfphenkidnaaGreatDoor
