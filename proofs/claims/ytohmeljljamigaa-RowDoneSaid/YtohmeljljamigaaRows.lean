/-
  No cell of these rows narrows 'for every input' (looked for: loops, veiled, ifaces, maps, wideKeys, modest, calm, conditions, laid).
  DERIVED. THE GIVEN ROWS OF THIS SEAT. 13 by the template 'for every input the law returns true; each argument reads behind the call as it read before'; 0 by the template 'total and deterministic' (their statements: YtohmeljljamigaaTotals.lean).
  GIVEN WITH THE SEED: the statements are not yours to turn. If you find one false, say at which input.
  Laid BY PROGRAM, IN A SANDBOX (cutbox-rows.mjs): the forced cells as the released guide's own fill.sh prints them over the translation c283007d8aa704b5… (all of the seat's roots in one cut). By AI agents, Wed Nov 11 2026. No macro, syntax, notation, axiom, sorry.
-/
import Derived.Test.YtohmeljljamigaaChecked
import GoSem.Claim
import GoSem.ClaimJoined
import GoSem.ClaimMapViews
import Derived.JoinedTies
import Derived.KernelRfl
namespace Go.Proofs.Ytohmeljljamigaa
/- THE CELL 'sum', in the pinned program and in every row, IS THE sha256 OF THE DUMP (.gsa) THAT YtohmeljljamigaaProg.lean LOADS. Nothing in Lean hashes anything: it is a label: what it is worth is what the hold of that sum in a sandbox is worth. -/
noncomputable def Try.pinned : Pinned := { name := "ytohmeljljamigaa", sum := "c283007d8aa704b54aabb379f3e3f57b8bcaef7d1e2fba615d2362ff39b6f18b", checked := Try.checked }
namespace Rows
def none {H : Type} : Left H := { results := [], args := [] }

/-- 'fuseboxlaw10.DiskJoins': WHATEVER THE INPUT: true; the input reads as it did. -/
def diskJoinsSpec : ChangeSpec := { name := "diskJoins", fn := fun _ => fun
  | [d1, d2, d3, d4, d5, d6] => { results := [.lit (.bool true)], args := [d1, d2, d3, d4, d5, d6] }
  | _ => none }
def diskJoinsRow : OpenClaim := { program := "ytohmeljljamigaa", sum := "c283007d8aa704b54aabb379f3e3f57b8bcaef7d1e2fba615d2362ff39b6f18b", func := "fusebox/fuseboxlaw10.DiskJoins", spec := "diskJoins", inPlace := ["slices.overlaps[fusebox/api.File]"], unfollowed := true, recurses := true, apart := false }
def DiskJoinsSaid : Prop := diskJoinsRow.holds Try.pinned (OpenSpec.ofChange diskJoinsSpec)

/-- ITS FALSE NEIGHBOUR: 'it returns false'. Refute it at one input. -/
def diskJoinsWrong : ChangeSpec := { name := "diskJoins", fn := fun _ => fun
  | [d1, d2, d3, d4, d5, d6] => { results := [.lit (.bool false)], args := [d1, d2, d3, d4, d5, d6] }
  | _ => none }
def DiskJoinsWrongFalsely : Prop := diskJoinsRow.holds Try.pinned (OpenSpec.ofChange diskJoinsWrong)

/-- 'fuseboxlaw10.DiskRight': WHATEVER THE INPUT: true; the input reads as it did. -/
def diskRightSpec : ChangeSpec := { name := "diskRight", fn := fun _ => fun
  | [d1, d2, d3, d4, d5, d6, d7] => { results := [.lit (.bool true)], args := [d1, d2, d3, d4, d5, d6, d7] }
  | _ => none }
def diskRightRow : OpenClaim := { program := "ytohmeljljamigaa", sum := "c283007d8aa704b54aabb379f3e3f57b8bcaef7d1e2fba615d2362ff39b6f18b", func := "fusebox/fuseboxlaw10.DiskRight", spec := "diskRight", inPlace := ["slices.overlaps[fusebox/api.File]"], unfollowed := true, recurses := true, apart := false }
def DiskRightSaid : Prop := diskRightRow.holds Try.pinned (OpenSpec.ofChange diskRightSpec)

/-- ITS FALSE NEIGHBOUR: 'it returns false'. Refute it at one input. -/
def diskRightWrong : ChangeSpec := { name := "diskRight", fn := fun _ => fun
  | [d1, d2, d3, d4, d5, d6, d7] => { results := [.lit (.bool false)], args := [d1, d2, d3, d4, d5, d6, d7] }
  | _ => none }
def DiskRightWrongFalsely : Prop := diskRightRow.holds Try.pinned (OpenSpec.ofChange diskRightWrong)

/-- 'fuseboxlaw10.DiskSteps': WHATEVER THE INPUT: true; the input reads as it did. -/
def diskStepsSpec : ChangeSpec := { name := "diskSteps", fn := fun _ => fun
  | [d1, d2, d3] => { results := [.lit (.bool true)], args := [d1, d2, d3] }
  | _ => none }
def diskStepsRow : OpenClaim := { program := "ytohmeljljamigaa", sum := "c283007d8aa704b54aabb379f3e3f57b8bcaef7d1e2fba615d2362ff39b6f18b", func := "fusebox/fuseboxlaw10.DiskSteps", spec := "diskSteps", inPlace := ["slices.overlaps[fusebox/api.File]"], unfollowed := true, recurses := true, apart := false }
def DiskStepsSaid : Prop := diskStepsRow.holds Try.pinned (OpenSpec.ofChange diskStepsSpec)

/-- ITS FALSE NEIGHBOUR: 'it returns false'. Refute it at one input. -/
def diskStepsWrong : ChangeSpec := { name := "diskSteps", fn := fun _ => fun
  | [d1, d2, d3] => { results := [.lit (.bool false)], args := [d1, d2, d3] }
  | _ => none }
def DiskStepsWrongFalsely : Prop := diskStepsRow.holds Try.pinned (OpenSpec.ofChange diskStepsWrong)

/-- 'fuseboxlaw10.DiskLasts': WHATEVER THE INPUT: true; the input reads as it did. -/
def diskLastsSpec : ChangeSpec := { name := "diskLasts", fn := fun _ => fun
  | [d1, d2, d3, d4, d5] => { results := [.lit (.bool true)], args := [d1, d2, d3, d4, d5] }
  | _ => none }
def diskLastsRow : OpenClaim := { program := "ytohmeljljamigaa", sum := "c283007d8aa704b54aabb379f3e3f57b8bcaef7d1e2fba615d2362ff39b6f18b", func := "fusebox/fuseboxlaw10.DiskLasts", spec := "diskLasts", inPlace := ["slices.overlaps[fusebox/api.File]"], unfollowed := true, recurses := true, apart := false }
def DiskLastsSaid : Prop := diskLastsRow.holds Try.pinned (OpenSpec.ofChange diskLastsSpec)

/-- ITS FALSE NEIGHBOUR: 'it returns false'. Refute it at one input. -/
def diskLastsWrong : ChangeSpec := { name := "diskLasts", fn := fun _ => fun
  | [d1, d2, d3, d4, d5] => { results := [.lit (.bool false)], args := [d1, d2, d3, d4, d5] }
  | _ => none }
def DiskLastsWrongFalsely : Prop := diskLastsRow.holds Try.pinned (OpenSpec.ofChange diskLastsWrong)

/-- 'fuseboxlaw15.StateRight': WHATEVER THE INPUT: true; the input reads as it did. -/
def stateRightSpec : ChangeSpec := { name := "stateRight", fn := fun _ => fun
  | [d1, d2, d3, d4] => { results := [.lit (.bool true)], args := [d1, d2, d3, d4] }
  | _ => none }
def stateRightRow : OpenClaim := { program := "ytohmeljljamigaa", sum := "c283007d8aa704b54aabb379f3e3f57b8bcaef7d1e2fba615d2362ff39b6f18b", func := "fusebox/fuseboxlaw15.StateRight", spec := "stateRight", inPlace := ["slices.overlaps[fusebox/api.Comp]"], unfollowed := true, recurses := true, apart := false }
def StateRightSaid : Prop := stateRightRow.holds Try.pinned (OpenSpec.ofChange stateRightSpec)

/-- ITS FALSE NEIGHBOUR: 'it returns false'. Refute it at one input. -/
def stateRightWrong : ChangeSpec := { name := "stateRight", fn := fun _ => fun
  | [d1, d2, d3, d4] => { results := [.lit (.bool false)], args := [d1, d2, d3, d4] }
  | _ => none }
def StateRightWrongFalsely : Prop := stateRightRow.holds Try.pinned (OpenSpec.ofChange stateRightWrong)

/-- 'fuseboxlaw15.StateFolds': WHATEVER THE INPUT: true; the input reads as it did. -/
def stateFoldsSpec : ChangeSpec := { name := "stateFolds", fn := fun _ => fun
  | [d1, d2, d3] => { results := [.lit (.bool true)], args := [d1, d2, d3] }
  | _ => none }
def stateFoldsRow : OpenClaim := { program := "ytohmeljljamigaa", sum := "c283007d8aa704b54aabb379f3e3f57b8bcaef7d1e2fba615d2362ff39b6f18b", func := "fusebox/fuseboxlaw15.StateFolds", spec := "stateFolds", inPlace := ["slices.overlaps[fusebox/api.Comp]"], unfollowed := true, recurses := true, apart := false }
def StateFoldsSaid : Prop := stateFoldsRow.holds Try.pinned (OpenSpec.ofChange stateFoldsSpec)

/-- ITS FALSE NEIGHBOUR: 'it returns false'. Refute it at one input. -/
def stateFoldsWrong : ChangeSpec := { name := "stateFolds", fn := fun _ => fun
  | [d1, d2, d3] => { results := [.lit (.bool false)], args := [d1, d2, d3] }
  | _ => none }
def StateFoldsWrongFalsely : Prop := stateFoldsRow.holds Try.pinned (OpenSpec.ofChange stateFoldsWrong)

/-- 'fuseboxlaw15.StateOne': WHATEVER THE INPUT: true; the input reads as it did. -/
def stateOneSpec : ChangeSpec := { name := "stateOne", fn := fun _ => fun
  | [d1, d2] => { results := [.lit (.bool true)], args := [d1, d2] }
  | _ => none }
def stateOneRow : OpenClaim := { program := "ytohmeljljamigaa", sum := "c283007d8aa704b54aabb379f3e3f57b8bcaef7d1e2fba615d2362ff39b6f18b", func := "fusebox/fuseboxlaw15.StateOne", spec := "stateOne", inPlace := ["slices.overlaps[fusebox/api.Comp]"], unfollowed := true, recurses := true, apart := false }
def StateOneSaid : Prop := stateOneRow.holds Try.pinned (OpenSpec.ofChange stateOneSpec)

/-- ITS FALSE NEIGHBOUR: 'it returns false'. Refute it at one input. -/
def stateOneWrong : ChangeSpec := { name := "stateOne", fn := fun _ => fun
  | [d1, d2] => { results := [.lit (.bool false)], args := [d1, d2] }
  | _ => none }
def StateOneWrongFalsely : Prop := stateOneRow.holds Try.pinned (OpenSpec.ofChange stateOneWrong)

/-- 'fuseboxlaw18.ListRight': WHATEVER THE INPUT: true; the input reads as it did. -/
def listRightSpec : ChangeSpec := { name := "listRight", fn := fun _ => fun
  | [d1, d2, d3] => { results := [.lit (.bool true)], args := [d1, d2, d3] }
  | _ => none }
def listRightRow : OpenClaim := { program := "ytohmeljljamigaa", sum := "c283007d8aa704b54aabb379f3e3f57b8bcaef7d1e2fba615d2362ff39b6f18b", func := "fusebox/fuseboxlaw18.ListRight", spec := "listRight", inPlace := ["slices.overlaps[fusebox/api.Comp]"], unfollowed := true, recurses := true, apart := false }
def ListRightSaid : Prop := listRightRow.holds Try.pinned (OpenSpec.ofChange listRightSpec)

/-- ITS FALSE NEIGHBOUR: 'it returns false'. Refute it at one input. -/
def listRightWrong : ChangeSpec := { name := "listRight", fn := fun _ => fun
  | [d1, d2, d3] => { results := [.lit (.bool false)], args := [d1, d2, d3] }
  | _ => none }
def ListRightWrongFalsely : Prop := listRightRow.holds Try.pinned (OpenSpec.ofChange listRightWrong)

/-- 'fuseboxlaw18.ListDrops': WHATEVER THE INPUT: true; the input reads as it did. -/
def listDropsSpec : ChangeSpec := { name := "listDrops", fn := fun _ => fun
  | [d1, d2, d3, d4] => { results := [.lit (.bool true)], args := [d1, d2, d3, d4] }
  | _ => none }
def listDropsRow : OpenClaim := { program := "ytohmeljljamigaa", sum := "c283007d8aa704b54aabb379f3e3f57b8bcaef7d1e2fba615d2362ff39b6f18b", func := "fusebox/fuseboxlaw18.ListDrops", spec := "listDrops", inPlace := ["slices.overlaps[fusebox/api.Comp]"], unfollowed := true, recurses := true, apart := false }
def ListDropsSaid : Prop := listDropsRow.holds Try.pinned (OpenSpec.ofChange listDropsSpec)

/-- ITS FALSE NEIGHBOUR: 'it returns false'. Refute it at one input. -/
def listDropsWrong : ChangeSpec := { name := "listDrops", fn := fun _ => fun
  | [d1, d2, d3, d4] => { results := [.lit (.bool false)], args := [d1, d2, d3, d4] }
  | _ => none }
def ListDropsWrongFalsely : Prop := listDropsRow.holds Try.pinned (OpenSpec.ofChange listDropsWrong)

/-- 'fuseboxlaw18.ListFolds': WHATEVER THE INPUT: true; the input reads as it did. -/
def listFoldsSpec : ChangeSpec := { name := "listFolds", fn := fun _ => fun
  | [d1, d2] => { results := [.lit (.bool true)], args := [d1, d2] }
  | _ => none }
def listFoldsRow : OpenClaim := { program := "ytohmeljljamigaa", sum := "c283007d8aa704b54aabb379f3e3f57b8bcaef7d1e2fba615d2362ff39b6f18b", func := "fusebox/fuseboxlaw18.ListFolds", spec := "listFolds", inPlace := ["slices.overlaps[fusebox/api.Comp]"], unfollowed := true, recurses := true, apart := false }
def ListFoldsSaid : Prop := listFoldsRow.holds Try.pinned (OpenSpec.ofChange listFoldsSpec)

/-- ITS FALSE NEIGHBOUR: 'it returns false'. Refute it at one input. -/
def listFoldsWrong : ChangeSpec := { name := "listFolds", fn := fun _ => fun
  | [d1, d2] => { results := [.lit (.bool false)], args := [d1, d2] }
  | _ => none }
def ListFoldsWrongFalsely : Prop := listFoldsRow.holds Try.pinned (OpenSpec.ofChange listFoldsWrong)

/-- 'fuseboxlaw16.RowRight': WHATEVER THE INPUT: true; the input reads as it did. -/
def rowRightSpec : ChangeSpec := { name := "rowRight", fn := fun _ => fun
  | [d1, d2] => { results := [.lit (.bool true)], args := [d1, d2] }
  | _ => none }
def rowRightRow : OpenClaim := { program := "ytohmeljljamigaa", sum := "c283007d8aa704b54aabb379f3e3f57b8bcaef7d1e2fba615d2362ff39b6f18b", func := "fusebox/fuseboxlaw16.RowRight", spec := "rowRight", inPlace := ["slices.overlaps[fusebox/api.Comp]"], unfollowed := true, recurses := true, apart := false }
def RowRightSaid : Prop := rowRightRow.holds Try.pinned (OpenSpec.ofChange rowRightSpec)

/-- ITS FALSE NEIGHBOUR: 'it returns false'. Refute it at one input. -/
def rowRightWrong : ChangeSpec := { name := "rowRight", fn := fun _ => fun
  | [d1, d2] => { results := [.lit (.bool false)], args := [d1, d2] }
  | _ => none }
def RowRightWrongFalsely : Prop := rowRightRow.holds Try.pinned (OpenSpec.ofChange rowRightWrong)

/-- 'fuseboxlaw16.RowBack': WHATEVER THE INPUT: true; the input reads as it did. -/
def rowBackSpec : ChangeSpec := { name := "rowBack", fn := fun _ => fun
  | [d1, d2, d3, d4, d5] => { results := [.lit (.bool true)], args := [d1, d2, d3, d4, d5] }
  | _ => none }
def rowBackRow : OpenClaim := { program := "ytohmeljljamigaa", sum := "c283007d8aa704b54aabb379f3e3f57b8bcaef7d1e2fba615d2362ff39b6f18b", func := "fusebox/fuseboxlaw16.RowBack", spec := "rowBack", inPlace := ["slices.overlaps[fusebox/api.Comp]"], unfollowed := true, recurses := true, apart := false }
def RowBackSaid : Prop := rowBackRow.holds Try.pinned (OpenSpec.ofChange rowBackSpec)

/-- ITS FALSE NEIGHBOUR: 'it returns false'. Refute it at one input. -/
def rowBackWrong : ChangeSpec := { name := "rowBack", fn := fun _ => fun
  | [d1, d2, d3, d4, d5] => { results := [.lit (.bool false)], args := [d1, d2, d3, d4, d5] }
  | _ => none }
def RowBackWrongFalsely : Prop := rowBackRow.holds Try.pinned (OpenSpec.ofChange rowBackWrong)

/-- 'fuseboxlaw16.RowDone': WHATEVER THE INPUT: true; the input reads as it did. -/
def rowDoneSpec : ChangeSpec := { name := "rowDone", fn := fun _ => fun
  | [d1, d2] => { results := [.lit (.bool true)], args := [d1, d2] }
  | _ => none }
def rowDoneRow : OpenClaim := { program := "ytohmeljljamigaa", sum := "c283007d8aa704b54aabb379f3e3f57b8bcaef7d1e2fba615d2362ff39b6f18b", func := "fusebox/fuseboxlaw16.RowDone", spec := "rowDone", inPlace := ["slices.overlaps[fusebox/api.Comp]"], unfollowed := true, recurses := true, apart := false }
def RowDoneSaid : Prop := rowDoneRow.holds Try.pinned (OpenSpec.ofChange rowDoneSpec)

/-- ITS FALSE NEIGHBOUR: 'it returns false'. Refute it at one input. -/
def rowDoneWrong : ChangeSpec := { name := "rowDone", fn := fun _ => fun
  | [d1, d2] => { results := [.lit (.bool false)], args := [d1, d2] }
  | _ => none }
def RowDoneWrongFalsely : Prop := rowDoneRow.holds Try.pinned (OpenSpec.ofChange rowDoneWrong)

/- THE SECOND FORM. 'bulk': how many values and letters a reading holds, each counted each time it is reached (what is shared counts as often as it is met; a slice's spare places count too). A statement '..UptoSaid' is the law's where the arguments, and the package variables that the reading takes, are together of bulk at most 1048576: NARROWER than '..Said'. Prove '..Said' where nothing that the law and all that it calls make is longer than what came in: it says more and counts as full. Else prove '..UptoSaid'. A law counts once. -/
mutual
def uptoBulk {H : Type} : DataW H → Nat
  | .lit (.string bytes) => bytes.length + 1
  | .lit _ => 1
  | .nil => 1
  | .ptr d => uptoBulk d + 1
  | .slice elems spare => uptoBulkAll elems + uptoBulkAll spare + 1
  | .agg parts => uptoBulkAll parts + 1
  | .iface _ d => uptoBulk d + 1
  | .map entries => uptoBulkEntries entries + 1
  | .held _ => 1
def uptoBulkAll {H : Type} : List (DataW H) → Nat
  | [] => 0
  | d :: r => uptoBulk d + uptoBulkAll r
def uptoBulkEntries {H : Type} : List (Lit × DataW H) → Nat
  | [] => 0
  | x :: r => uptoBulkEntry x + uptoBulkEntries r
def uptoBulkEntry {H : Type} : Lit × DataW H → Nat
  | (.string bytes, d) => bytes.length + uptoBulk d + 1
  | (_, d) => uptoBulk d + 1
 end
def uptoSmall : (H : Type) → List (DataW H) → Bool := fun _ ds => decide (uptoBulkAll ds ≤ 1048576)
def OpenSpec.upto (s : _root_.Go.ChangeSpec) : _root_.Go.OpenSpec := { _root_.Go.OpenSpec.ofChange s with cond := some uptoSmall }

/-- 'fuseboxlaw10.DiskJoins', WHERE WHAT IT READS IS OF BULK AT MOST 1048576: true; the input reads as it did. -/
def diskJoinsUptoRow : OpenClaim := { program := "ytohmeljljamigaa", sum := "c283007d8aa704b54aabb379f3e3f57b8bcaef7d1e2fba615d2362ff39b6f18b", func := "fusebox/fuseboxlaw10.DiskJoins", spec := "diskJoins", inPlace := ["slices.overlaps[fusebox/api.File]"], unfollowed := true, recurses := true, apart := false, narrowed := true }
def DiskJoinsUptoSaid : Prop := diskJoinsUptoRow.holds Try.pinned (OpenSpec.upto diskJoinsSpec)

/-- 'fuseboxlaw10.DiskRight', WHERE WHAT IT READS IS OF BULK AT MOST 1048576: true; the input reads as it did. -/
def diskRightUptoRow : OpenClaim := { program := "ytohmeljljamigaa", sum := "c283007d8aa704b54aabb379f3e3f57b8bcaef7d1e2fba615d2362ff39b6f18b", func := "fusebox/fuseboxlaw10.DiskRight", spec := "diskRight", inPlace := ["slices.overlaps[fusebox/api.File]"], unfollowed := true, recurses := true, apart := false, narrowed := true }
def DiskRightUptoSaid : Prop := diskRightUptoRow.holds Try.pinned (OpenSpec.upto diskRightSpec)

/-- 'fuseboxlaw10.DiskSteps', WHERE WHAT IT READS IS OF BULK AT MOST 1048576: true; the input reads as it did. -/
def diskStepsUptoRow : OpenClaim := { program := "ytohmeljljamigaa", sum := "c283007d8aa704b54aabb379f3e3f57b8bcaef7d1e2fba615d2362ff39b6f18b", func := "fusebox/fuseboxlaw10.DiskSteps", spec := "diskSteps", inPlace := ["slices.overlaps[fusebox/api.File]"], unfollowed := true, recurses := true, apart := false, narrowed := true }
def DiskStepsUptoSaid : Prop := diskStepsUptoRow.holds Try.pinned (OpenSpec.upto diskStepsSpec)

/-- 'fuseboxlaw10.DiskLasts', WHERE WHAT IT READS IS OF BULK AT MOST 1048576: true; the input reads as it did. -/
def diskLastsUptoRow : OpenClaim := { program := "ytohmeljljamigaa", sum := "c283007d8aa704b54aabb379f3e3f57b8bcaef7d1e2fba615d2362ff39b6f18b", func := "fusebox/fuseboxlaw10.DiskLasts", spec := "diskLasts", inPlace := ["slices.overlaps[fusebox/api.File]"], unfollowed := true, recurses := true, apart := false, narrowed := true }
def DiskLastsUptoSaid : Prop := diskLastsUptoRow.holds Try.pinned (OpenSpec.upto diskLastsSpec)

/-- 'fuseboxlaw15.StateRight', WHERE WHAT IT READS IS OF BULK AT MOST 1048576: true; the input reads as it did. -/
def stateRightUptoRow : OpenClaim := { program := "ytohmeljljamigaa", sum := "c283007d8aa704b54aabb379f3e3f57b8bcaef7d1e2fba615d2362ff39b6f18b", func := "fusebox/fuseboxlaw15.StateRight", spec := "stateRight", inPlace := ["slices.overlaps[fusebox/api.Comp]"], unfollowed := true, recurses := true, apart := false, narrowed := true }
def StateRightUptoSaid : Prop := stateRightUptoRow.holds Try.pinned (OpenSpec.upto stateRightSpec)

/-- 'fuseboxlaw15.StateFolds', WHERE WHAT IT READS IS OF BULK AT MOST 1048576: true; the input reads as it did. -/
def stateFoldsUptoRow : OpenClaim := { program := "ytohmeljljamigaa", sum := "c283007d8aa704b54aabb379f3e3f57b8bcaef7d1e2fba615d2362ff39b6f18b", func := "fusebox/fuseboxlaw15.StateFolds", spec := "stateFolds", inPlace := ["slices.overlaps[fusebox/api.Comp]"], unfollowed := true, recurses := true, apart := false, narrowed := true }
def StateFoldsUptoSaid : Prop := stateFoldsUptoRow.holds Try.pinned (OpenSpec.upto stateFoldsSpec)

/-- 'fuseboxlaw15.StateOne', WHERE WHAT IT READS IS OF BULK AT MOST 1048576: true; the input reads as it did. -/
def stateOneUptoRow : OpenClaim := { program := "ytohmeljljamigaa", sum := "c283007d8aa704b54aabb379f3e3f57b8bcaef7d1e2fba615d2362ff39b6f18b", func := "fusebox/fuseboxlaw15.StateOne", spec := "stateOne", inPlace := ["slices.overlaps[fusebox/api.Comp]"], unfollowed := true, recurses := true, apart := false, narrowed := true }
def StateOneUptoSaid : Prop := stateOneUptoRow.holds Try.pinned (OpenSpec.upto stateOneSpec)

/-- 'fuseboxlaw18.ListRight', WHERE WHAT IT READS IS OF BULK AT MOST 1048576: true; the input reads as it did. -/
def listRightUptoRow : OpenClaim := { program := "ytohmeljljamigaa", sum := "c283007d8aa704b54aabb379f3e3f57b8bcaef7d1e2fba615d2362ff39b6f18b", func := "fusebox/fuseboxlaw18.ListRight", spec := "listRight", inPlace := ["slices.overlaps[fusebox/api.Comp]"], unfollowed := true, recurses := true, apart := false, narrowed := true }
def ListRightUptoSaid : Prop := listRightUptoRow.holds Try.pinned (OpenSpec.upto listRightSpec)

/-- 'fuseboxlaw18.ListDrops', WHERE WHAT IT READS IS OF BULK AT MOST 1048576: true; the input reads as it did. -/
def listDropsUptoRow : OpenClaim := { program := "ytohmeljljamigaa", sum := "c283007d8aa704b54aabb379f3e3f57b8bcaef7d1e2fba615d2362ff39b6f18b", func := "fusebox/fuseboxlaw18.ListDrops", spec := "listDrops", inPlace := ["slices.overlaps[fusebox/api.Comp]"], unfollowed := true, recurses := true, apart := false, narrowed := true }
def ListDropsUptoSaid : Prop := listDropsUptoRow.holds Try.pinned (OpenSpec.upto listDropsSpec)

/-- 'fuseboxlaw18.ListFolds', WHERE WHAT IT READS IS OF BULK AT MOST 1048576: true; the input reads as it did. -/
def listFoldsUptoRow : OpenClaim := { program := "ytohmeljljamigaa", sum := "c283007d8aa704b54aabb379f3e3f57b8bcaef7d1e2fba615d2362ff39b6f18b", func := "fusebox/fuseboxlaw18.ListFolds", spec := "listFolds", inPlace := ["slices.overlaps[fusebox/api.Comp]"], unfollowed := true, recurses := true, apart := false, narrowed := true }
def ListFoldsUptoSaid : Prop := listFoldsUptoRow.holds Try.pinned (OpenSpec.upto listFoldsSpec)

/-- 'fuseboxlaw16.RowRight', WHERE WHAT IT READS IS OF BULK AT MOST 1048576: true; the input reads as it did. -/
def rowRightUptoRow : OpenClaim := { program := "ytohmeljljamigaa", sum := "c283007d8aa704b54aabb379f3e3f57b8bcaef7d1e2fba615d2362ff39b6f18b", func := "fusebox/fuseboxlaw16.RowRight", spec := "rowRight", inPlace := ["slices.overlaps[fusebox/api.Comp]"], unfollowed := true, recurses := true, apart := false, narrowed := true }
def RowRightUptoSaid : Prop := rowRightUptoRow.holds Try.pinned (OpenSpec.upto rowRightSpec)

/-- 'fuseboxlaw16.RowBack', WHERE WHAT IT READS IS OF BULK AT MOST 1048576: true; the input reads as it did. -/
def rowBackUptoRow : OpenClaim := { program := "ytohmeljljamigaa", sum := "c283007d8aa704b54aabb379f3e3f57b8bcaef7d1e2fba615d2362ff39b6f18b", func := "fusebox/fuseboxlaw16.RowBack", spec := "rowBack", inPlace := ["slices.overlaps[fusebox/api.Comp]"], unfollowed := true, recurses := true, apart := false, narrowed := true }
def RowBackUptoSaid : Prop := rowBackUptoRow.holds Try.pinned (OpenSpec.upto rowBackSpec)

/-- 'fuseboxlaw16.RowDone', WHERE WHAT IT READS IS OF BULK AT MOST 1048576: true; the input reads as it did. -/
def rowDoneUptoRow : OpenClaim := { program := "ytohmeljljamigaa", sum := "c283007d8aa704b54aabb379f3e3f57b8bcaef7d1e2fba615d2362ff39b6f18b", func := "fusebox/fuseboxlaw16.RowDone", spec := "rowDone", inPlace := ["slices.overlaps[fusebox/api.Comp]"], unfollowed := true, recurses := true, apart := false, narrowed := true }
def RowDoneUptoSaid : Prop := rowDoneUptoRow.holds Try.pinned (OpenSpec.upto rowDoneSpec)

end Rows
end Go.Proofs.Ytohmeljljamigaa
