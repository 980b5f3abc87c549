/-
  No cell of these rows narrows 'for every input' (looked for: loops, veiled, ifaces, maps, wideKeys, modest, calm, conditions, laid).
  DERIVED. THE GIVEN ROWS OF THIS SEAT. 12 by the template 'for every input the law returns true; each argument reads behind the call as it read before'; 0 by the template 'total and deterministic' (their statements: YtpgahnnbpfeldaaTotals.lean).
  GIVEN WITH THE SEED: the statements are not yours to turn. If you find one false, say at which input.
  Laid BY PROGRAM, IN A SANDBOX (cutbox-rows.mjs): the forced cells as the released guide's own fill.sh prints them over the translation d59c71af8e544a0f… (all of the seat's roots in one cut). By AI agents, Wed Nov 11 2026. No macro, syntax, notation, axiom, sorry.
-/
import Derived.Test.YtpgahnnbpfeldaaChecked
import GoSem.Claim
import GoSem.ClaimJoined
import GoSem.ClaimMapViews
import Derived.JoinedTies
import Derived.KernelRfl
namespace Go.Proofs.Ytpgahnnbpfeldaa
/- THE CELL 'sum', in the pinned program and in every row, IS THE sha256 OF THE DUMP (.gsa) THAT YtpgahnnbpfeldaaProg.lean LOADS. Nothing in Lean hashes anything: it is a label: what it is worth is what the hold of that sum in a sandbox is worth. -/
noncomputable def Try.pinned : Pinned := { name := "ytpgahnnbpfeldaa", sum := "d59c71af8e544a0f60f97d9dc83e32b1ceb3e917245c4e38d48258688570427f", checked := Try.checked }
namespace Rows
def none {H : Type} : Left H := { results := [], args := [] }

/-- 'fuseboxlaw05.EventRight': WHATEVER THE INPUT: true; the input reads as it did. -/
def eventRightSpec : ChangeSpec := { name := "eventRight", fn := fun _ => fun
  | [d1, d2, d3, d4] => { results := [.lit (.bool true)], args := [d1, d2, d3, d4] }
  | _ => none }
def eventRightRow : OpenClaim := { program := "ytpgahnnbpfeldaa", sum := "d59c71af8e544a0f60f97d9dc83e32b1ceb3e917245c4e38d48258688570427f", func := "fusebox/fuseboxlaw05.EventRight", spec := "eventRight", apart := false }
def EventRightSaid : Prop := eventRightRow.holds Try.pinned (OpenSpec.ofChange eventRightSpec)

/-- ITS FALSE NEIGHBOUR: 'it returns false'. Refute it at one input. -/
def eventRightWrong : ChangeSpec := { name := "eventRight", fn := fun _ => fun
  | [d1, d2, d3, d4] => { results := [.lit (.bool false)], args := [d1, d2, d3, d4] }
  | _ => none }
def EventRightWrongFalsely : Prop := eventRightRow.holds Try.pinned (OpenSpec.ofChange eventRightWrong)

/-- 'fuseboxlaw05.EventFields': WHATEVER THE INPUT: true; the input reads as it did. -/
def eventFieldsSpec : ChangeSpec := { name := "eventFields", fn := fun _ => fun
  | [d1, d2] => { results := [.lit (.bool true)], args := [d1, d2] }
  | _ => none }
def eventFieldsRow : OpenClaim := { program := "ytpgahnnbpfeldaa", sum := "d59c71af8e544a0f60f97d9dc83e32b1ceb3e917245c4e38d48258688570427f", func := "fusebox/fuseboxlaw05.EventFields", spec := "eventFields", apart := false }
def EventFieldsSaid : Prop := eventFieldsRow.holds Try.pinned (OpenSpec.ofChange eventFieldsSpec)

/-- ITS FALSE NEIGHBOUR: 'it returns false'. Refute it at one input. -/
def eventFieldsWrong : ChangeSpec := { name := "eventFields", fn := fun _ => fun
  | [d1, d2] => { results := [.lit (.bool false)], args := [d1, d2] }
  | _ => none }
def EventFieldsWrongFalsely : Prop := eventFieldsRow.holds Try.pinned (OpenSpec.ofChange eventFieldsWrong)

/-- 'fuseboxlaw07.CodecRight': WHATEVER THE INPUT: true; the input reads as it did. -/
def codecRightSpec : ChangeSpec := { name := "codecRight", fn := fun _ => fun
  | [d1, d2, d3] => { results := [.lit (.bool true)], args := [d1, d2, d3] }
  | _ => none }
def codecRightRow : OpenClaim := { program := "ytpgahnnbpfeldaa", sum := "d59c71af8e544a0f60f97d9dc83e32b1ceb3e917245c4e38d48258688570427f", func := "fusebox/fuseboxlaw07.CodecRight", spec := "codecRight", unfollowed := true, recurses := true, apart := false }
def CodecRightSaid : Prop := codecRightRow.holds Try.pinned (OpenSpec.ofChange codecRightSpec)

/-- ITS FALSE NEIGHBOUR: 'it returns false'. Refute it at one input. -/
def codecRightWrong : ChangeSpec := { name := "codecRight", fn := fun _ => fun
  | [d1, d2, d3] => { results := [.lit (.bool false)], args := [d1, d2, d3] }
  | _ => none }
def CodecRightWrongFalsely : Prop := codecRightRow.holds Try.pinned (OpenSpec.ofChange codecRightWrong)

/-- 'fuseboxlaw07.CodecBack': WHATEVER THE INPUT: true; the input reads as it did. -/
def codecBackSpec : ChangeSpec := { name := "codecBack", fn := fun _ => fun
  | [d1, d2, d3, d4, d5] => { results := [.lit (.bool true)], args := [d1, d2, d3, d4, d5] }
  | _ => none }
def codecBackRow : OpenClaim := { program := "ytpgahnnbpfeldaa", sum := "d59c71af8e544a0f60f97d9dc83e32b1ceb3e917245c4e38d48258688570427f", func := "fusebox/fuseboxlaw07.CodecBack", spec := "codecBack", unfollowed := true, recurses := true, apart := false }
def CodecBackSaid : Prop := codecBackRow.holds Try.pinned (OpenSpec.ofChange codecBackSpec)

/-- ITS FALSE NEIGHBOUR: 'it returns false'. Refute it at one input. -/
def codecBackWrong : ChangeSpec := { name := "codecBack", fn := fun _ => fun
  | [d1, d2, d3, d4, d5] => { results := [.lit (.bool false)], args := [d1, d2, d3, d4, d5] }
  | _ => none }
def CodecBackWrongFalsely : Prop := codecBackRow.holds Try.pinned (OpenSpec.ofChange codecBackWrong)

/-- 'fuseboxlaw07.CodecRow': WHATEVER THE INPUT: true; the input reads as it did. -/
def codecRowSpec : ChangeSpec := { name := "codecRow", fn := fun _ => fun
  | [d] => { results := [.lit (.bool true)], args := [d] }
  | _ => none }
def codecRowRow : OpenClaim := { program := "ytpgahnnbpfeldaa", sum := "d59c71af8e544a0f60f97d9dc83e32b1ceb3e917245c4e38d48258688570427f", func := "fusebox/fuseboxlaw07.CodecRow", spec := "codecRow", unfollowed := true, recurses := true, apart := false }
def CodecRowSaid : Prop := codecRowRow.holds Try.pinned (OpenSpec.ofChange codecRowSpec)

/-- ITS FALSE NEIGHBOUR: 'it returns false'. Refute it at one input. -/
def codecRowWrong : ChangeSpec := { name := "codecRow", fn := fun _ => fun
  | [d] => { results := [.lit (.bool false)], args := [d] }
  | _ => none }
def CodecRowWrongFalsely : Prop := codecRowRow.holds Try.pinned (OpenSpec.ofChange codecRowWrong)

/-- 'fuseboxlaw10.DiskJoins': WHATEVER THE INPUT: true; the input reads as it did. -/
def diskJoinsSpec : ChangeSpec := { name := "diskJoins", fn := fun _ => fun
  | [d1, d2, d3, d4, d5, d6] => { results := [.lit (.bool true)], args := [d1, d2, d3, d4, d5, d6] }
  | _ => none }
def diskJoinsRow : OpenClaim := { program := "ytpgahnnbpfeldaa", sum := "d59c71af8e544a0f60f97d9dc83e32b1ceb3e917245c4e38d48258688570427f", func := "fusebox/fuseboxlaw10.DiskJoins", spec := "diskJoins", inPlace := ["slices.overlaps[fusebox/api.File]"], unfollowed := true, recurses := true, apart := false }
def DiskJoinsSaid : Prop := diskJoinsRow.holds Try.pinned (OpenSpec.ofChange diskJoinsSpec)

/-- ITS FALSE NEIGHBOUR: 'it returns false'. Refute it at one input. -/
def diskJoinsWrong : ChangeSpec := { name := "diskJoins", fn := fun _ => fun
  | [d1, d2, d3, d4, d5, d6] => { results := [.lit (.bool false)], args := [d1, d2, d3, d4, d5, d6] }
  | _ => none }
def DiskJoinsWrongFalsely : Prop := diskJoinsRow.holds Try.pinned (OpenSpec.ofChange diskJoinsWrong)

/-- 'fuseboxlaw14.CompRight': WHATEVER THE INPUT: true; the input reads as it did. -/
def compRightSpec : ChangeSpec := { name := "compRight", fn := fun _ => fun
  | [d1, d2, d3, d4, d5, d6] => { results := [.lit (.bool true)], args := [d1, d2, d3, d4, d5, d6] }
  | _ => none }
def compRightRow : OpenClaim := { program := "ytpgahnnbpfeldaa", sum := "d59c71af8e544a0f60f97d9dc83e32b1ceb3e917245c4e38d48258688570427f", func := "fusebox/fuseboxlaw14.CompRight", spec := "compRight", inPlace := ["math.archTrunc", "math.Float64bits", "math.Float64frombits"], unfollowed := true, recurses := true, apart := false }
def CompRightSaid : Prop := compRightRow.holds Try.pinned (OpenSpec.ofChange compRightSpec)

/-- ITS FALSE NEIGHBOUR: 'it returns false'. Refute it at one input. -/
def compRightWrong : ChangeSpec := { name := "compRight", fn := fun _ => fun
  | [d1, d2, d3, d4, d5, d6] => { results := [.lit (.bool false)], args := [d1, d2, d3, d4, d5, d6] }
  | _ => none }
def CompRightWrongFalsely : Prop := compRightRow.holds Try.pinned (OpenSpec.ofChange compRightWrong)

/-- 'fuseboxlaw14.CompCounts': WHATEVER THE INPUT: true; the input reads as it did. -/
def compCountsSpec : ChangeSpec := { name := "compCounts", fn := fun _ => fun
  | [d1, d2] => { results := [.lit (.bool true)], args := [d1, d2] }
  | _ => none }
def compCountsRow : OpenClaim := { program := "ytpgahnnbpfeldaa", sum := "d59c71af8e544a0f60f97d9dc83e32b1ceb3e917245c4e38d48258688570427f", func := "fusebox/fuseboxlaw14.CompCounts", spec := "compCounts", inPlace := ["math.archTrunc", "math.Float64bits", "math.Float64frombits"], unfollowed := true, recurses := true, apart := false }
def CompCountsSaid : Prop := compCountsRow.holds Try.pinned (OpenSpec.ofChange compCountsSpec)

/-- ITS FALSE NEIGHBOUR: 'it returns false'. Refute it at one input. -/
def compCountsWrong : ChangeSpec := { name := "compCounts", fn := fun _ => fun
  | [d1, d2] => { results := [.lit (.bool false)], args := [d1, d2] }
  | _ => none }
def CompCountsWrongFalsely : Prop := compCountsRow.holds Try.pinned (OpenSpec.ofChange compCountsWrong)

/-- 'fuseboxlaw14.CompBreaker': WHATEVER THE INPUT: true; the input reads as it did. -/
def compBreakerSpec : ChangeSpec := { name := "compBreaker", fn := fun _ => fun
  | [d1, d2, d3, d4] => { results := [.lit (.bool true)], args := [d1, d2, d3, d4] }
  | _ => none }
def compBreakerRow : OpenClaim := { program := "ytpgahnnbpfeldaa", sum := "d59c71af8e544a0f60f97d9dc83e32b1ceb3e917245c4e38d48258688570427f", func := "fusebox/fuseboxlaw14.CompBreaker", spec := "compBreaker", inPlace := ["math.archTrunc", "math.Float64bits", "math.Float64frombits"], unfollowed := true, recurses := true, apart := false }
def CompBreakerSaid : Prop := compBreakerRow.holds Try.pinned (OpenSpec.ofChange compBreakerSpec)

/-- ITS FALSE NEIGHBOUR: 'it returns false'. Refute it at one input. -/
def compBreakerWrong : ChangeSpec := { name := "compBreaker", fn := fun _ => fun
  | [d1, d2, d3, d4] => { results := [.lit (.bool false)], args := [d1, d2, d3, d4] }
  | _ => none }
def CompBreakerWrongFalsely : Prop := compBreakerRow.holds Try.pinned (OpenSpec.ofChange compBreakerWrong)

/-- 'fuseboxlaw10.DiskRight': WHATEVER THE INPUT: true; the input reads as it did. -/
def diskRightSpec : ChangeSpec := { name := "diskRight", fn := fun _ => fun
  | [d1, d2, d3, d4, d5, d6, d7] => { results := [.lit (.bool true)], args := [d1, d2, d3, d4, d5, d6, d7] }
  | _ => none }
def diskRightRow : OpenClaim := { program := "ytpgahnnbpfeldaa", sum := "d59c71af8e544a0f60f97d9dc83e32b1ceb3e917245c4e38d48258688570427f", func := "fusebox/fuseboxlaw10.DiskRight", spec := "diskRight", inPlace := ["slices.overlaps[fusebox/api.File]"], unfollowed := true, recurses := true, apart := false }
def DiskRightSaid : Prop := diskRightRow.holds Try.pinned (OpenSpec.ofChange diskRightSpec)

/-- ITS FALSE NEIGHBOUR: 'it returns false'. Refute it at one input. -/
def diskRightWrong : ChangeSpec := { name := "diskRight", fn := fun _ => fun
  | [d1, d2, d3, d4, d5, d6, d7] => { results := [.lit (.bool false)], args := [d1, d2, d3, d4, d5, d6, d7] }
  | _ => none }
def DiskRightWrongFalsely : Prop := diskRightRow.holds Try.pinned (OpenSpec.ofChange diskRightWrong)

/-- 'fuseboxlaw10.DiskSteps': WHATEVER THE INPUT: true; the input reads as it did. -/
def diskStepsSpec : ChangeSpec := { name := "diskSteps", fn := fun _ => fun
  | [d1, d2, d3] => { results := [.lit (.bool true)], args := [d1, d2, d3] }
  | _ => none }
def diskStepsRow : OpenClaim := { program := "ytpgahnnbpfeldaa", sum := "d59c71af8e544a0f60f97d9dc83e32b1ceb3e917245c4e38d48258688570427f", func := "fusebox/fuseboxlaw10.DiskSteps", spec := "diskSteps", inPlace := ["slices.overlaps[fusebox/api.File]"], unfollowed := true, recurses := true, apart := false }
def DiskStepsSaid : Prop := diskStepsRow.holds Try.pinned (OpenSpec.ofChange diskStepsSpec)

/-- ITS FALSE NEIGHBOUR: 'it returns false'. Refute it at one input. -/
def diskStepsWrong : ChangeSpec := { name := "diskSteps", fn := fun _ => fun
  | [d1, d2, d3] => { results := [.lit (.bool false)], args := [d1, d2, d3] }
  | _ => none }
def DiskStepsWrongFalsely : Prop := diskStepsRow.holds Try.pinned (OpenSpec.ofChange diskStepsWrong)

/-- 'fuseboxlaw10.DiskLasts': WHATEVER THE INPUT: true; the input reads as it did. -/
def diskLastsSpec : ChangeSpec := { name := "diskLasts", fn := fun _ => fun
  | [d1, d2, d3, d4, d5] => { results := [.lit (.bool true)], args := [d1, d2, d3, d4, d5] }
  | _ => none }
def diskLastsRow : OpenClaim := { program := "ytpgahnnbpfeldaa", sum := "d59c71af8e544a0f60f97d9dc83e32b1ceb3e917245c4e38d48258688570427f", func := "fusebox/fuseboxlaw10.DiskLasts", spec := "diskLasts", inPlace := ["slices.overlaps[fusebox/api.File]"], unfollowed := true, recurses := true, apart := false }
def DiskLastsSaid : Prop := diskLastsRow.holds Try.pinned (OpenSpec.ofChange diskLastsSpec)

/-- ITS FALSE NEIGHBOUR: 'it returns false'. Refute it at one input. -/
def diskLastsWrong : ChangeSpec := { name := "diskLasts", fn := fun _ => fun
  | [d1, d2, d3, d4, d5] => { results := [.lit (.bool false)], args := [d1, d2, d3, d4, d5] }
  | _ => none }
def DiskLastsWrongFalsely : Prop := diskLastsRow.holds Try.pinned (OpenSpec.ofChange diskLastsWrong)

/- THE SECOND FORM. 'bulk': how many values and letters a reading holds, each counted each time it is reached (what is shared counts as often as it is met; a slice's spare places count too). A statement '..UptoSaid' is the law's where the arguments, and the package variables that the reading takes, are together of bulk at most 1048576: NARROWER than '..Said'. Prove '..Said' where nothing that the law and all that it calls make is longer than what came in: it says more and counts as full. Else prove '..UptoSaid'. A law counts once. -/
mutual
def uptoBulk {H : Type} : DataW H → Nat
  | .lit (.string bytes) => bytes.length + 1
  | .lit _ => 1
  | .nil => 1
  | .ptr d => uptoBulk d + 1
  | .slice elems spare => uptoBulkAll elems + uptoBulkAll spare + 1
  | .agg parts => uptoBulkAll parts + 1
  | .iface _ d => uptoBulk d + 1
  | .map entries => uptoBulkEntries entries + 1
  | .held _ => 1
def uptoBulkAll {H : Type} : List (DataW H) → Nat
  | [] => 0
  | d :: r => uptoBulk d + uptoBulkAll r
def uptoBulkEntries {H : Type} : List (Lit × DataW H) → Nat
  | [] => 0
  | x :: r => uptoBulkEntry x + uptoBulkEntries r
def uptoBulkEntry {H : Type} : Lit × DataW H → Nat
  | (.string bytes, d) => bytes.length + uptoBulk d + 1
  | (_, d) => uptoBulk d + 1
 end
def uptoSmall : (H : Type) → List (DataW H) → Bool := fun _ ds => decide (uptoBulkAll ds ≤ 1048576)
def OpenSpec.upto (s : _root_.Go.ChangeSpec) : _root_.Go.OpenSpec := { _root_.Go.OpenSpec.ofChange s with cond := some uptoSmall }

/-- 'fuseboxlaw05.EventRight', WHERE WHAT IT READS IS OF BULK AT MOST 1048576: true; the input reads as it did. -/
def eventRightUptoRow : OpenClaim := { program := "ytpgahnnbpfeldaa", sum := "d59c71af8e544a0f60f97d9dc83e32b1ceb3e917245c4e38d48258688570427f", func := "fusebox/fuseboxlaw05.EventRight", spec := "eventRight", apart := false, narrowed := true }
def EventRightUptoSaid : Prop := eventRightUptoRow.holds Try.pinned (OpenSpec.upto eventRightSpec)

/-- 'fuseboxlaw05.EventFields', WHERE WHAT IT READS IS OF BULK AT MOST 1048576: true; the input reads as it did. -/
def eventFieldsUptoRow : OpenClaim := { program := "ytpgahnnbpfeldaa", sum := "d59c71af8e544a0f60f97d9dc83e32b1ceb3e917245c4e38d48258688570427f", func := "fusebox/fuseboxlaw05.EventFields", spec := "eventFields", apart := false, narrowed := true }
def EventFieldsUptoSaid : Prop := eventFieldsUptoRow.holds Try.pinned (OpenSpec.upto eventFieldsSpec)

/-- 'fuseboxlaw07.CodecRight', WHERE WHAT IT READS IS OF BULK AT MOST 1048576: true; the input reads as it did. -/
def codecRightUptoRow : OpenClaim := { program := "ytpgahnnbpfeldaa", sum := "d59c71af8e544a0f60f97d9dc83e32b1ceb3e917245c4e38d48258688570427f", func := "fusebox/fuseboxlaw07.CodecRight", spec := "codecRight", unfollowed := true, recurses := true, apart := false, narrowed := true }
def CodecRightUptoSaid : Prop := codecRightUptoRow.holds Try.pinned (OpenSpec.upto codecRightSpec)

/-- 'fuseboxlaw07.CodecBack', WHERE WHAT IT READS IS OF BULK AT MOST 1048576: true; the input reads as it did. -/
def codecBackUptoRow : OpenClaim := { program := "ytpgahnnbpfeldaa", sum := "d59c71af8e544a0f60f97d9dc83e32b1ceb3e917245c4e38d48258688570427f", func := "fusebox/fuseboxlaw07.CodecBack", spec := "codecBack", unfollowed := true, recurses := true, apart := false, narrowed := true }
def CodecBackUptoSaid : Prop := codecBackUptoRow.holds Try.pinned (OpenSpec.upto codecBackSpec)

/-- 'fuseboxlaw07.CodecRow', WHERE WHAT IT READS IS OF BULK AT MOST 1048576: true; the input reads as it did. -/
def codecRowUptoRow : OpenClaim := { program := "ytpgahnnbpfeldaa", sum := "d59c71af8e544a0f60f97d9dc83e32b1ceb3e917245c4e38d48258688570427f", func := "fusebox/fuseboxlaw07.CodecRow", spec := "codecRow", unfollowed := true, recurses := true, apart := false, narrowed := true }
def CodecRowUptoSaid : Prop := codecRowUptoRow.holds Try.pinned (OpenSpec.upto codecRowSpec)

/-- 'fuseboxlaw10.DiskJoins', WHERE WHAT IT READS IS OF BULK AT MOST 1048576: true; the input reads as it did. -/
def diskJoinsUptoRow : OpenClaim := { program := "ytpgahnnbpfeldaa", sum := "d59c71af8e544a0f60f97d9dc83e32b1ceb3e917245c4e38d48258688570427f", func := "fusebox/fuseboxlaw10.DiskJoins", spec := "diskJoins", inPlace := ["slices.overlaps[fusebox/api.File]"], unfollowed := true, recurses := true, apart := false, narrowed := true }
def DiskJoinsUptoSaid : Prop := diskJoinsUptoRow.holds Try.pinned (OpenSpec.upto diskJoinsSpec)

/-- 'fuseboxlaw14.CompRight', WHERE WHAT IT READS IS OF BULK AT MOST 1048576: true; the input reads as it did. -/
def compRightUptoRow : OpenClaim := { program := "ytpgahnnbpfeldaa", sum := "d59c71af8e544a0f60f97d9dc83e32b1ceb3e917245c4e38d48258688570427f", func := "fusebox/fuseboxlaw14.CompRight", spec := "compRight", inPlace := ["math.archTrunc", "math.Float64bits", "math.Float64frombits"], unfollowed := true, recurses := true, apart := false, narrowed := true }
def CompRightUptoSaid : Prop := compRightUptoRow.holds Try.pinned (OpenSpec.upto compRightSpec)

/-- 'fuseboxlaw14.CompCounts', WHERE WHAT IT READS IS OF BULK AT MOST 1048576: true; the input reads as it did. -/
def compCountsUptoRow : OpenClaim := { program := "ytpgahnnbpfeldaa", sum := "d59c71af8e544a0f60f97d9dc83e32b1ceb3e917245c4e38d48258688570427f", func := "fusebox/fuseboxlaw14.CompCounts", spec := "compCounts", inPlace := ["math.archTrunc", "math.Float64bits", "math.Float64frombits"], unfollowed := true, recurses := true, apart := false, narrowed := true }
def CompCountsUptoSaid : Prop := compCountsUptoRow.holds Try.pinned (OpenSpec.upto compCountsSpec)

/-- 'fuseboxlaw14.CompBreaker', WHERE WHAT IT READS IS OF BULK AT MOST 1048576: true; the input reads as it did. -/
def compBreakerUptoRow : OpenClaim := { program := "ytpgahnnbpfeldaa", sum := "d59c71af8e544a0f60f97d9dc83e32b1ceb3e917245c4e38d48258688570427f", func := "fusebox/fuseboxlaw14.CompBreaker", spec := "compBreaker", inPlace := ["math.archTrunc", "math.Float64bits", "math.Float64frombits"], unfollowed := true, recurses := true, apart := false, narrowed := true }
def CompBreakerUptoSaid : Prop := compBreakerUptoRow.holds Try.pinned (OpenSpec.upto compBreakerSpec)

/-- 'fuseboxlaw10.DiskRight', WHERE WHAT IT READS IS OF BULK AT MOST 1048576: true; the input reads as it did. -/
def diskRightUptoRow : OpenClaim := { program := "ytpgahnnbpfeldaa", sum := "d59c71af8e544a0f60f97d9dc83e32b1ceb3e917245c4e38d48258688570427f", func := "fusebox/fuseboxlaw10.DiskRight", spec := "diskRight", inPlace := ["slices.overlaps[fusebox/api.File]"], unfollowed := true, recurses := true, apart := false, narrowed := true }
def DiskRightUptoSaid : Prop := diskRightUptoRow.holds Try.pinned (OpenSpec.upto diskRightSpec)

/-- 'fuseboxlaw10.DiskSteps', WHERE WHAT IT READS IS OF BULK AT MOST 1048576: true; the input reads as it did. -/
def diskStepsUptoRow : OpenClaim := { program := "ytpgahnnbpfeldaa", sum := "d59c71af8e544a0f60f97d9dc83e32b1ceb3e917245c4e38d48258688570427f", func := "fusebox/fuseboxlaw10.DiskSteps", spec := "diskSteps", inPlace := ["slices.overlaps[fusebox/api.File]"], unfollowed := true, recurses := true, apart := false, narrowed := true }
def DiskStepsUptoSaid : Prop := diskStepsUptoRow.holds Try.pinned (OpenSpec.upto diskStepsSpec)

/-- 'fuseboxlaw10.DiskLasts', WHERE WHAT IT READS IS OF BULK AT MOST 1048576: true; the input reads as it did. -/
def diskLastsUptoRow : OpenClaim := { program := "ytpgahnnbpfeldaa", sum := "d59c71af8e544a0f60f97d9dc83e32b1ceb3e917245c4e38d48258688570427f", func := "fusebox/fuseboxlaw10.DiskLasts", spec := "diskLasts", inPlace := ["slices.overlaps[fusebox/api.File]"], unfollowed := true, recurses := true, apart := false, narrowed := true }
def DiskLastsUptoSaid : Prop := diskLastsUptoRow.holds Try.pinned (OpenSpec.upto diskLastsSpec)

end Rows
end Go.Proofs.Ytpgahnnbpfeldaa
