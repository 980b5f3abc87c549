/-
  DERIVED. GIVEN WITH THE SEED: THE CARDS: each row of YtbocfphenkidnaaDoorRows.lean that lists a variable, with what it lists TIED to the program's text (the seventh form; the later family's looks); each row that meets fmt, with fmt's text TOLD by the authors' own Lean function (tested against real Go, not proved from fmt's source: count such statements apart). THE CARD IS WHAT COUNTS. Prove the row's statement (the work); the ties are given (YtbocfphenkidnaaDoorTie.lean); close each card by the builder's one call (the guide's Derived/Test/ToyasCard.lean, 'card_holds'). Laid BY PROGRAM, IN A SANDBOX (cutbox-door.mjs). By AI agents, Wed Nov 11 2026. No macro, syntax, notation, axiom, sorry.
-/
import Derived.Test.YtbocfphenkidnaaDoorRows
import GoSem.ClaimSeven
namespace Go.Proofs.YtbocfphenkidnaaDoor
namespace Rows

/-- THE TIED CARD OF 'fuseboxlaw09.SegmentBack'. -/
def segmentBackCard : Claim7 := { stood := { row := segmentBackRow, standIns := [], harness := (true, "2ce1dd086277ec164c27731effaf4c1c4f87c026ca5eed494ea06e3ae3e83e96"), looks := false }, kinds := [], alts := [], laidByText := true, laidKinds := [.data, .data, .data], laidTests := true, laidLooks := .later }
def SegmentBackCardSaid : Prop := Claim7.holds Tryd.pinned (.plain (OpenSpec.ofChange segmentBackSpec)) segmentBackCard

/-- THE TIED CARD OF 'fuseboxlaw09.SegmentCut'. -/
def segmentCutCard : Claim7 := { stood := { row := segmentCutRow, standIns := [], harness := (true, "2ce1dd086277ec164c27731effaf4c1c4f87c026ca5eed494ea06e3ae3e83e96"), looks := false }, kinds := [], alts := [], laidByText := true, laidKinds := [.data, .data, .data], laidTests := true, laidLooks := .later }
def SegmentCutCardSaid : Prop := Claim7.holds Tryd.pinned (.plain (OpenSpec.ofChange segmentCutSpec)) segmentCutCard

/-- THE SECOND FORM's CARD OF 'fuseboxlaw09.SegmentBack'. -/
def segmentBackUptoCard : Claim7 := { stood := { row := segmentBackUptoRow, standIns := [], harness := (true, "2ce1dd086277ec164c27731effaf4c1c4f87c026ca5eed494ea06e3ae3e83e96"), looks := false }, kinds := [], alts := [], laidByText := true, laidKinds := [.data, .data, .data], laidTests := true, laidLooks := .later }
def SegmentBackUptoCardSaid : Prop := Claim7.holds Tryd.pinned (.plain (OpenSpec.upto segmentBackSpec)) segmentBackUptoCard

/-- THE SECOND FORM's CARD OF 'fuseboxlaw09.SegmentCut'. -/
def segmentCutUptoCard : Claim7 := { stood := { row := segmentCutUptoRow, standIns := [], harness := (true, "2ce1dd086277ec164c27731effaf4c1c4f87c026ca5eed494ea06e3ae3e83e96"), looks := false }, kinds := [], alts := [], laidByText := true, laidKinds := [.data, .data, .data], laidTests := true, laidLooks := .later }
def SegmentCutUptoCardSaid : Prop := Claim7.holds Tryd.pinned (.plain (OpenSpec.upto segmentCutSpec)) segmentCutUptoCard
end Rows
end Go.Proofs.YtbocfphenkidnaaDoor
