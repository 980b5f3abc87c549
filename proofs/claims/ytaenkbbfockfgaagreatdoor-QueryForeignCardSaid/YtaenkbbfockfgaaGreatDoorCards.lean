/-
  DERIVED. GIVEN WITH THE SEED: THE CARDS: each row of YtaenkbbfockfgaaGreatDoorRows.lean that lists a variable, with what it lists TIED to the program's text (the seventh form; the later family's looks); each row that meets fmt, with fmt's text TOLD by the authors' own Lean function (tested against real Go, not proved from fmt's source: count such statements apart). THE CARD IS WHAT COUNTS. Prove the row's statement (the work); the ties are given (YtaenkbbfockfgaaGreatDoorTie.lean); close each card by the builder's one call (the guide's Derived/Test/ToyasCard.lean, 'card_holds'). Laid BY PROGRAM, IN A SANDBOX (cutbox-door.mjs). By AI agents, Wed Nov 11 2026. No macro, syntax, notation, axiom, sorry.
-/
import Derived.Test.YtaenkbbfockfgaaGreatDoorRows
import GoSem.ClaimSeven
namespace Go.Proofs.YtaenkbbfockfgaaGreatDoor
namespace Rows

/-- THE TIED CARD OF 'fuseboxlaw25.QueryRight'. -/
def queryRightCard : Claim7 := { stood := { row := queryRightRow, standIns := [], harness := (true, "db21769a86436362995aee2a7f6669a2c437afd2181a72f5120bb79d1f71b3f0"), looks := true }, kinds := [], alts := [], laidByText := true, laidKinds := [.data, .data, .data, .sentinel, .sentinel], laidTests := true, laidLooks := .later }
def QueryRightCardSaid : Prop := Claim7.holds Tryz.pinned (.plain (OpenSpec.ofChange queryRightSpec)) queryRightCard

/-- THE TIED CARD OF 'fuseboxlaw25.QueryPages'. -/
def queryPagesCard : Claim7 := { stood := { row := queryPagesRow, standIns := [], harness := (true, "db21769a86436362995aee2a7f6669a2c437afd2181a72f5120bb79d1f71b3f0"), looks := true }, kinds := [], alts := [], laidByText := true, laidKinds := [.data, .data, .data, .sentinel, .sentinel], laidTests := true, laidLooks := .later }
def QueryPagesCardSaid : Prop := Claim7.holds Tryz.pinned (.plain (OpenSpec.ofChange queryPagesSpec)) queryPagesCard

/-- THE TIED CARD OF 'fuseboxlaw25.QueryForeign'. -/
def queryForeignCard : Claim7 := { stood := { row := queryForeignRow, standIns := [], harness := (true, "db21769a86436362995aee2a7f6669a2c437afd2181a72f5120bb79d1f71b3f0"), looks := true }, kinds := [], alts := [], laidByText := true, laidKinds := [.data, .data, .data, .sentinel, .sentinel], laidTests := true, laidLooks := .later }
def QueryForeignCardSaid : Prop := Claim7.holds Tryz.pinned (.plain (OpenSpec.ofChange queryForeignSpec)) queryForeignCard

/-- THE SECOND FORM's CARD OF 'fuseboxlaw25.QueryRight'. -/
def queryRightUptoCard : Claim7 := { stood := { row := queryRightUptoRow, standIns := [], harness := (true, "db21769a86436362995aee2a7f6669a2c437afd2181a72f5120bb79d1f71b3f0"), looks := true }, kinds := [], alts := [], laidByText := true, laidKinds := [.data, .data, .data, .sentinel, .sentinel], laidTests := true, laidLooks := .later }
def QueryRightUptoCardSaid : Prop := Claim7.holds Tryz.pinned (.plain (OpenSpec.upto queryRightSpec)) queryRightUptoCard

/-- THE SECOND FORM's CARD OF 'fuseboxlaw25.QueryPages'. -/
def queryPagesUptoCard : Claim7 := { stood := { row := queryPagesUptoRow, standIns := [], harness := (true, "db21769a86436362995aee2a7f6669a2c437afd2181a72f5120bb79d1f71b3f0"), looks := true }, kinds := [], alts := [], laidByText := true, laidKinds := [.data, .data, .data, .sentinel, .sentinel], laidTests := true, laidLooks := .later }
def QueryPagesUptoCardSaid : Prop := Claim7.holds Tryz.pinned (.plain (OpenSpec.upto queryPagesSpec)) queryPagesUptoCard

/-- THE SECOND FORM's CARD OF 'fuseboxlaw25.QueryForeign'. -/
def queryForeignUptoCard : Claim7 := { stood := { row := queryForeignUptoRow, standIns := [], harness := (true, "db21769a86436362995aee2a7f6669a2c437afd2181a72f5120bb79d1f71b3f0"), looks := true }, kinds := [], alts := [], laidByText := true, laidKinds := [.data, .data, .data, .sentinel, .sentinel], laidTests := true, laidLooks := .later }
def QueryForeignUptoCardSaid : Prop := Claim7.holds Tryz.pinned (.plain (OpenSpec.upto queryForeignSpec)) queryForeignUptoCard
end Rows
end Go.Proofs.YtaenkbbfockfgaaGreatDoor
