/-
  NARROWER THAN 'FOR EVERY INPUT', by the rows' own cells (each row's printed sentence says how): ExpoRight: laid · ExpoEscapes: laid · ExpoLines: laid · MetricRight: laid · MetricHist: laid · ParseBack: laid.
  DERIVED. THE GIVEN ROWS OF THIS SEAT. 6 by the template 'for every input the law returns true; each argument reads behind the call as it read before'; 0 by the template 'total and deterministic' (their statements: YtknnooannohflaaGreatDoorTotals.lean).
  GIVEN WITH THE SEED: the statements are not yours to turn. If you find one false, say at which input.
  Laid BY PROGRAM, IN A SANDBOX (cutbox-rows.mjs): the forced cells as the released guide's own fill.sh prints them over the translation 79e9f16f076cbecc… (all of the seat's roots in one cut). By AI agents, Wed Nov 11 2026. No macro, syntax, notation, axiom, sorry.
-/
import Derived.Test.YtknnooannohflaaGreatDoorChecked
import GoSem.Claim
import GoSem.ClaimJoined
import GoSem.ClaimMapViews
import Derived.JoinedTies
import Derived.KernelRfl
namespace Go.Proofs.YtknnooannohflaaGreatDoor
/- THE CELL 'sum', in the pinned program and in every row, IS THE sha256 OF THE DUMP (.gsa) THAT YtknnooannohflaaGreatDoorProg.lean LOADS. Nothing in Lean hashes anything: it is a label: what it is worth is what the hold of that sum in a sandbox is worth. -/
noncomputable def Tryz.pinned : Pinned := { name := "ytknnooannohflaagreatdoor", sum := "79e9f16f076cbecc3807f069cf58a57514fcaeb0aaf4d9d5d25ca1ba1b2ed746", checked := Tryz.checked }
namespace Rows
def none {H : Type} : Left H := { results := [], args := [] }

/- WHAT THE LISTED PACKAGE-LEVEL VARIABLES READ AS WHEN THE CALL BEGINS. Each datum BY PROGRAM (the guide's laid-datum.mjs) off the statement by which the dump's own 'gosem.cut.vars' lays the variable. In a bare row this is a premise. The card (YtknnooannohflaaGreatDoorCards.lean) ties it to the program's text. -/
def laid_math_bits_deBruijn32tab {H : Type} : DataW H := .agg [.lit (.int .u8 0), .lit (.int .u8 1), .lit (.int .u8 28), .lit (.int .u8 2), .lit (.int .u8 29), .lit (.int .u8 14), .lit (.int .u8 24), .lit (.int .u8 3), .lit (.int .u8 30), .lit (.int .u8 22), .lit (.int .u8 20), .lit (.int .u8 15), .lit (.int .u8 25), .lit (.int .u8 17), .lit (.int .u8 4), .lit (.int .u8 8), .lit (.int .u8 31), .lit (.int .u8 27), .lit (.int .u8 13), .lit (.int .u8 23), .lit (.int .u8 21), .lit (.int .u8 19), .lit (.int .u8 16), .lit (.int .u8 7), .lit (.int .u8 26), .lit (.int .u8 12), .lit (.int .u8 18), .lit (.int .u8 6), .lit (.int .u8 11), .lit (.int .u8 5), .lit (.int .u8 10), .lit (.int .u8 9)]
def laid_math_bits_deBruijn64tab {H : Type} : DataW H := .agg [.lit (.int .u8 0), .lit (.int .u8 1), .lit (.int .u8 56), .lit (.int .u8 2), .lit (.int .u8 57), .lit (.int .u8 49), .lit (.int .u8 28), .lit (.int .u8 3), .lit (.int .u8 61), .lit (.int .u8 58), .lit (.int .u8 42), .lit (.int .u8 50), .lit (.int .u8 38), .lit (.int .u8 29), .lit (.int .u8 17), .lit (.int .u8 4), .lit (.int .u8 62), .lit (.int .u8 47), .lit (.int .u8 59), .lit (.int .u8 36), .lit (.int .u8 45), .lit (.int .u8 43), .lit (.int .u8 51), .lit (.int .u8 22), .lit (.int .u8 53), .lit (.int .u8 39), .lit (.int .u8 33), .lit (.int .u8 30), .lit (.int .u8 24), .lit (.int .u8 18), .lit (.int .u8 12), .lit (.int .u8 5), .lit (.int .u8 63), .lit (.int .u8 55), .lit (.int .u8 48), .lit (.int .u8 27), .lit (.int .u8 60), .lit (.int .u8 41), .lit (.int .u8 37), .lit (.int .u8 16), .lit (.int .u8 46), .lit (.int .u8 35), .lit (.int .u8 44), .lit (.int .u8 21), .lit (.int .u8 52), .lit (.int .u8 32), .lit (.int .u8 23), .lit (.int .u8 11), .lit (.int .u8 54), .lit (.int .u8 26), .lit (.int .u8 40), .lit (.int .u8 15), .lit (.int .u8 34), .lit (.int .u8 20), .lit (.int .u8 31), .lit (.int .u8 10), .lit (.int .u8 25), .lit (.int .u8 14), .lit (.int .u8 19), .lit (.int .u8 9), .lit (.int .u8 13), .lit (.int .u8 8), .lit (.int .u8 7), .lit (.int .u8 6)]
def laid_internal_strconv_uint64pow10 {H : Type} : DataW H := .agg [.lit (.int .u64 1), .lit (.int .u64 10), .lit (.int .u64 100), .lit (.int .u64 1000), .lit (.int .u64 10000), .lit (.int .u64 100000), .lit (.int .u64 1000000), .lit (.int .u64 10000000), .lit (.int .u64 100000000), .lit (.int .u64 1000000000), .lit (.int .u64 10000000000), .lit (.int .u64 100000000000), .lit (.int .u64 1000000000000), .lit (.int .u64 10000000000000), .lit (.int .u64 100000000000000), .lit (.int .u64 1000000000000000), .lit (.int .u64 10000000000000000), .lit (.int .u64 100000000000000000), .lit (.int .u64 1000000000000000000), .lit (.int .u64 10000000000000000000)]
def laid_fusebox_metric_bounds {H : Type} : DataW H := .agg [.lit (.string [49]), .lit (.string [50]), .lit (.string [52]), .lit (.string [56]), .lit (.string [49, 54]), .lit (.string [51, 50]), .lit (.string [54, 52]), .lit (.string [49, 50, 56]), .lit (.string [43, 73, 110, 102])]
def laid_fusebox_parse_bounds {H : Type} : DataW H := .agg [.lit (.string [49]), .lit (.string [50]), .lit (.string [52]), .lit (.string [56]), .lit (.string [49, 54]), .lit (.string [51, 50]), .lit (.string [54, 52]), .lit (.string [49, 50, 56]), .lit (.string [43, 73, 110, 102])]

/-- 'fuseboxlaw27.ExpoRight': WHATEVER THE INPUT: true; the input reads as it did. -/
def expoRightSpec : ChangeSpec := { name := "expoRight", fn := fun _ => fun
  | [d1, d2] => { results := [.lit (.bool true)], args := [d1, d2] }
  | _ => none }
def expoRightRow : OpenClaim := { program := "ytknnooannohflaagreatdoor", sum := "79e9f16f076cbecc3807f069cf58a57514fcaeb0aaf4d9d5d25ca1ba1b2ed746", func := "fusebox/fuseboxlaw27.ExpoRight", spec := "expoRight", inPlace := ["sync/atomic.LoadUint32", "(*internal/sync.Mutex).Lock", "internal/race.Disable", "sync/atomic.CompareAndSwapInt32", "internal/race.Enable", "internal/race.Acquire", "(*internal/sync.Mutex).lockSlow", "internal/sync.runtime_canSpin", "internal/sync.runtime_doSpin", "internal/sync.throw", "internal/sync.runtime_nanotime", "internal/sync.runtime_SemacquireMutex", "sync/atomic.AddInt32", "(*internal/sync.Mutex).Unlock", "internal/race.ReleaseMerge", "(*internal/sync.Mutex).unlockSlow", "internal/sync.fatal", "internal/sync.runtime_Semrelease", "sync/atomic.StoreUint32", "internal/abi.NoEscape"], unfollowed := true, recurses := true, named := ["fusebox/metric.bounds", "internal/strconv.uint64pow10", "math/bits.deBruijn32tab", "math/bits.deBruijn64tab"], apart := false, laid := [("math/bits.deBruijn32tab", laid_math_bits_deBruijn32tab), ("math/bits.deBruijn64tab", laid_math_bits_deBruijn64tab), ("internal/strconv.uint64pow10", laid_internal_strconv_uint64pow10), ("fusebox/metric.bounds", laid_fusebox_metric_bounds)] }
def ExpoRightSaid : Prop := expoRightRow.holds Tryz.pinned (OpenSpec.ofChange expoRightSpec)

/-- ITS FALSE NEIGHBOUR: 'it returns false'. Refute it at one input. -/
def expoRightWrong : ChangeSpec := { name := "expoRight", fn := fun _ => fun
  | [d1, d2] => { results := [.lit (.bool false)], args := [d1, d2] }
  | _ => none }
def ExpoRightWrongFalsely : Prop := expoRightRow.holds Tryz.pinned (OpenSpec.ofChange expoRightWrong)

/-- 'fuseboxlaw27.ExpoEscapes': WHATEVER THE INPUT: true; the input reads as it did. -/
def expoEscapesSpec : ChangeSpec := { name := "expoEscapes", fn := fun _ => fun
  | [d1, d2] => { results := [.lit (.bool true)], args := [d1, d2] }
  | _ => none }
def expoEscapesRow : OpenClaim := { program := "ytknnooannohflaagreatdoor", sum := "79e9f16f076cbecc3807f069cf58a57514fcaeb0aaf4d9d5d25ca1ba1b2ed746", func := "fusebox/fuseboxlaw27.ExpoEscapes", spec := "expoEscapes", inPlace := ["sync/atomic.LoadUint32", "(*internal/sync.Mutex).Lock", "internal/race.Disable", "sync/atomic.CompareAndSwapInt32", "internal/race.Enable", "internal/race.Acquire", "(*internal/sync.Mutex).lockSlow", "internal/sync.runtime_canSpin", "internal/sync.runtime_doSpin", "internal/sync.throw", "internal/sync.runtime_nanotime", "internal/sync.runtime_SemacquireMutex", "sync/atomic.AddInt32", "(*internal/sync.Mutex).Unlock", "internal/race.ReleaseMerge", "(*internal/sync.Mutex).unlockSlow", "internal/sync.fatal", "internal/sync.runtime_Semrelease", "sync/atomic.StoreUint32", "internal/abi.NoEscape"], unfollowed := true, recurses := true, named := ["fusebox/metric.bounds", "internal/strconv.uint64pow10", "math/bits.deBruijn32tab", "math/bits.deBruijn64tab"], apart := false, laid := [("math/bits.deBruijn32tab", laid_math_bits_deBruijn32tab), ("math/bits.deBruijn64tab", laid_math_bits_deBruijn64tab), ("internal/strconv.uint64pow10", laid_internal_strconv_uint64pow10), ("fusebox/metric.bounds", laid_fusebox_metric_bounds)] }
def ExpoEscapesSaid : Prop := expoEscapesRow.holds Tryz.pinned (OpenSpec.ofChange expoEscapesSpec)

/-- ITS FALSE NEIGHBOUR: 'it returns false'. Refute it at one input. -/
def expoEscapesWrong : ChangeSpec := { name := "expoEscapes", fn := fun _ => fun
  | [d1, d2] => { results := [.lit (.bool false)], args := [d1, d2] }
  | _ => none }
def ExpoEscapesWrongFalsely : Prop := expoEscapesRow.holds Tryz.pinned (OpenSpec.ofChange expoEscapesWrong)

/-- 'fuseboxlaw27.ExpoLines': WHATEVER THE INPUT: true; the input reads as it did. -/
def expoLinesSpec : ChangeSpec := { name := "expoLines", fn := fun _ => fun
  | [d1, d2] => { results := [.lit (.bool true)], args := [d1, d2] }
  | _ => none }
def expoLinesRow : OpenClaim := { program := "ytknnooannohflaagreatdoor", sum := "79e9f16f076cbecc3807f069cf58a57514fcaeb0aaf4d9d5d25ca1ba1b2ed746", func := "fusebox/fuseboxlaw27.ExpoLines", spec := "expoLines", inPlace := ["sync/atomic.LoadUint32", "(*internal/sync.Mutex).Lock", "internal/race.Disable", "sync/atomic.CompareAndSwapInt32", "internal/race.Enable", "internal/race.Acquire", "(*internal/sync.Mutex).lockSlow", "internal/sync.runtime_canSpin", "internal/sync.runtime_doSpin", "internal/sync.throw", "internal/sync.runtime_nanotime", "internal/sync.runtime_SemacquireMutex", "sync/atomic.AddInt32", "(*internal/sync.Mutex).Unlock", "internal/race.ReleaseMerge", "(*internal/sync.Mutex).unlockSlow", "internal/sync.fatal", "internal/sync.runtime_Semrelease", "sync/atomic.StoreUint32", "internal/abi.NoEscape"], unfollowed := true, recurses := true, named := ["fusebox/metric.bounds", "internal/strconv.uint64pow10", "math/bits.deBruijn32tab", "math/bits.deBruijn64tab"], apart := false, laid := [("math/bits.deBruijn32tab", laid_math_bits_deBruijn32tab), ("math/bits.deBruijn64tab", laid_math_bits_deBruijn64tab), ("internal/strconv.uint64pow10", laid_internal_strconv_uint64pow10), ("fusebox/metric.bounds", laid_fusebox_metric_bounds)] }
def ExpoLinesSaid : Prop := expoLinesRow.holds Tryz.pinned (OpenSpec.ofChange expoLinesSpec)

/-- ITS FALSE NEIGHBOUR: 'it returns false'. Refute it at one input. -/
def expoLinesWrong : ChangeSpec := { name := "expoLines", fn := fun _ => fun
  | [d1, d2] => { results := [.lit (.bool false)], args := [d1, d2] }
  | _ => none }
def ExpoLinesWrongFalsely : Prop := expoLinesRow.holds Tryz.pinned (OpenSpec.ofChange expoLinesWrong)

/-- 'fuseboxlaw26.MetricRight': WHATEVER THE INPUT: true; the input reads as it did. -/
def metricRightSpec : ChangeSpec := { name := "metricRight", fn := fun _ => fun
  | [d1, d2, d3, d4, d5] => { results := [.lit (.bool true)], args := [d1, d2, d3, d4, d5] }
  | _ => none }
def metricRightRow : OpenClaim := { program := "ytknnooannohflaagreatdoor", sum := "79e9f16f076cbecc3807f069cf58a57514fcaeb0aaf4d9d5d25ca1ba1b2ed746", func := "fusebox/fuseboxlaw26.MetricRight", spec := "metricRight", inPlace := ["slices.overlaps[fusebox/api.Comp]", "math.archTrunc", "math.Float64bits", "math.Float64frombits"], unfollowed := true, recurses := true, named := ["fusebox/metric.bounds"], apart := false, laid := [("fusebox/metric.bounds", laid_fusebox_metric_bounds)] }
def MetricRightSaid : Prop := metricRightRow.holds Tryz.pinned (OpenSpec.ofChange metricRightSpec)

/-- ITS FALSE NEIGHBOUR: 'it returns false'. Refute it at one input. -/
def metricRightWrong : ChangeSpec := { name := "metricRight", fn := fun _ => fun
  | [d1, d2, d3, d4, d5] => { results := [.lit (.bool false)], args := [d1, d2, d3, d4, d5] }
  | _ => none }
def MetricRightWrongFalsely : Prop := metricRightRow.holds Tryz.pinned (OpenSpec.ofChange metricRightWrong)

/-- 'fuseboxlaw26.MetricHist': WHATEVER THE INPUT: true; the input reads as it did. -/
def metricHistSpec : ChangeSpec := { name := "metricHist", fn := fun _ => fun
  | [d1, d2] => { results := [.lit (.bool true)], args := [d1, d2] }
  | _ => none }
def metricHistRow : OpenClaim := { program := "ytknnooannohflaagreatdoor", sum := "79e9f16f076cbecc3807f069cf58a57514fcaeb0aaf4d9d5d25ca1ba1b2ed746", func := "fusebox/fuseboxlaw26.MetricHist", spec := "metricHist", inPlace := ["slices.overlaps[fusebox/api.Comp]", "math.archTrunc", "math.Float64bits", "math.Float64frombits"], unfollowed := true, recurses := true, named := ["fusebox/metric.bounds"], apart := false, laid := [("fusebox/metric.bounds", laid_fusebox_metric_bounds)] }
def MetricHistSaid : Prop := metricHistRow.holds Tryz.pinned (OpenSpec.ofChange metricHistSpec)

/-- ITS FALSE NEIGHBOUR: 'it returns false'. Refute it at one input. -/
def metricHistWrong : ChangeSpec := { name := "metricHist", fn := fun _ => fun
  | [d1, d2] => { results := [.lit (.bool false)], args := [d1, d2] }
  | _ => none }
def MetricHistWrongFalsely : Prop := metricHistRow.holds Tryz.pinned (OpenSpec.ofChange metricHistWrong)

/-- 'fuseboxlaw28.ParseBack': WHATEVER THE INPUT: true; the input reads as it did. -/
def parseBackSpec : ChangeSpec := { name := "parseBack", fn := fun _ => fun
  | [d1, d2] => { results := [.lit (.bool true)], args := [d1, d2] }
  | _ => none }
def parseBackRow : OpenClaim := { program := "ytknnooannohflaagreatdoor", sum := "79e9f16f076cbecc3807f069cf58a57514fcaeb0aaf4d9d5d25ca1ba1b2ed746", func := "fusebox/fuseboxlaw28.ParseBack", spec := "parseBack", inPlace := ["internal/bytealg.IndexByteString", "internal/bytealg.IndexString", "internal/abi.NoEscape", "sync/atomic.LoadUint32", "(*internal/sync.Mutex).Lock", "internal/race.Disable", "sync/atomic.CompareAndSwapInt32", "internal/race.Enable", "internal/race.Acquire", "(*internal/sync.Mutex).lockSlow", "internal/sync.runtime_canSpin", "internal/sync.runtime_doSpin", "internal/sync.throw", "internal/sync.runtime_nanotime", "internal/sync.runtime_SemacquireMutex", "sync/atomic.AddInt32", "(*internal/sync.Mutex).Unlock", "internal/race.ReleaseMerge", "(*internal/sync.Mutex).unlockSlow", "internal/sync.fatal", "internal/sync.runtime_Semrelease", "sync/atomic.StoreUint32"], unfollowed := true, recurses := true, named := ["internal/bytealg.MaxLen", "fusebox/parse.bounds", "fusebox/metric.bounds", "internal/strconv.uint64pow10", "math/bits.deBruijn32tab", "math/bits.deBruijn64tab"], apart := false, laid := [("math/bits.deBruijn32tab", laid_math_bits_deBruijn32tab), ("math/bits.deBruijn64tab", laid_math_bits_deBruijn64tab), ("internal/strconv.uint64pow10", laid_internal_strconv_uint64pow10), ("fusebox/metric.bounds", laid_fusebox_metric_bounds), ("fusebox/parse.bounds", laid_fusebox_parse_bounds)] }
def ParseBackSaid : Prop := parseBackRow.holds Tryz.pinned (OpenSpec.ofChange parseBackSpec)

/-- ITS FALSE NEIGHBOUR: 'it returns false'. Refute it at one input. -/
def parseBackWrong : ChangeSpec := { name := "parseBack", fn := fun _ => fun
  | [d1, d2] => { results := [.lit (.bool false)], args := [d1, d2] }
  | _ => none }
def ParseBackWrongFalsely : Prop := parseBackRow.holds Tryz.pinned (OpenSpec.ofChange parseBackWrong)

/- THE SECOND FORM. 'bulk': how many values and letters a reading holds, each counted each time it is reached (what is shared counts as often as it is met; a slice's spare places count too). A statement '..UptoSaid' is the law's where the arguments, and the package variables that the reading takes, are together of bulk at most 1048576: NARROWER than '..Said'. Prove '..Said' where nothing that the law and all that it calls make is longer than what came in: it says more and counts as full. Else prove '..UptoSaid'. A law counts once. -/
mutual
def uptoBulk {H : Type} : DataW H → Nat
  | .lit (.string bytes) => bytes.length + 1
  | .lit _ => 1
  | .nil => 1
  | .ptr d => uptoBulk d + 1
  | .slice elems spare => uptoBulkAll elems + uptoBulkAll spare + 1
  | .agg parts => uptoBulkAll parts + 1
  | .iface _ d => uptoBulk d + 1
  | .map entries => uptoBulkEntries entries + 1
  | .held _ => 1
def uptoBulkAll {H : Type} : List (DataW H) → Nat
  | [] => 0
  | d :: r => uptoBulk d + uptoBulkAll r
def uptoBulkEntries {H : Type} : List (Lit × DataW H) → Nat
  | [] => 0
  | x :: r => uptoBulkEntry x + uptoBulkEntries r
def uptoBulkEntry {H : Type} : Lit × DataW H → Nat
  | (.string bytes, d) => bytes.length + uptoBulk d + 1
  | (_, d) => uptoBulk d + 1
 end
def uptoSmall : (H : Type) → List (DataW H) → Bool := fun _ ds => decide (uptoBulkAll ds ≤ 1048576)
def OpenSpec.upto (s : _root_.Go.ChangeSpec) : _root_.Go.OpenSpec := { _root_.Go.OpenSpec.ofChange s with cond := some uptoSmall }

/-- 'fuseboxlaw27.ExpoRight', WHERE WHAT IT READS IS OF BULK AT MOST 1048576: true; the input reads as it did. -/
def expoRightUptoRow : OpenClaim := { program := "ytknnooannohflaagreatdoor", sum := "79e9f16f076cbecc3807f069cf58a57514fcaeb0aaf4d9d5d25ca1ba1b2ed746", func := "fusebox/fuseboxlaw27.ExpoRight", spec := "expoRight", inPlace := ["sync/atomic.LoadUint32", "(*internal/sync.Mutex).Lock", "internal/race.Disable", "sync/atomic.CompareAndSwapInt32", "internal/race.Enable", "internal/race.Acquire", "(*internal/sync.Mutex).lockSlow", "internal/sync.runtime_canSpin", "internal/sync.runtime_doSpin", "internal/sync.throw", "internal/sync.runtime_nanotime", "internal/sync.runtime_SemacquireMutex", "sync/atomic.AddInt32", "(*internal/sync.Mutex).Unlock", "internal/race.ReleaseMerge", "(*internal/sync.Mutex).unlockSlow", "internal/sync.fatal", "internal/sync.runtime_Semrelease", "sync/atomic.StoreUint32", "internal/abi.NoEscape"], unfollowed := true, recurses := true, named := ["fusebox/metric.bounds", "internal/strconv.uint64pow10", "math/bits.deBruijn32tab", "math/bits.deBruijn64tab"], apart := false, laid := [("math/bits.deBruijn32tab", laid_math_bits_deBruijn32tab), ("math/bits.deBruijn64tab", laid_math_bits_deBruijn64tab), ("internal/strconv.uint64pow10", laid_internal_strconv_uint64pow10), ("fusebox/metric.bounds", laid_fusebox_metric_bounds)], narrowed := true }
def ExpoRightUptoSaid : Prop := expoRightUptoRow.holds Tryz.pinned (OpenSpec.upto expoRightSpec)

/-- 'fuseboxlaw27.ExpoEscapes', WHERE WHAT IT READS IS OF BULK AT MOST 1048576: true; the input reads as it did. -/
def expoEscapesUptoRow : OpenClaim := { program := "ytknnooannohflaagreatdoor", sum := "79e9f16f076cbecc3807f069cf58a57514fcaeb0aaf4d9d5d25ca1ba1b2ed746", func := "fusebox/fuseboxlaw27.ExpoEscapes", spec := "expoEscapes", inPlace := ["sync/atomic.LoadUint32", "(*internal/sync.Mutex).Lock", "internal/race.Disable", "sync/atomic.CompareAndSwapInt32", "internal/race.Enable", "internal/race.Acquire", "(*internal/sync.Mutex).lockSlow", "internal/sync.runtime_canSpin", "internal/sync.runtime_doSpin", "internal/sync.throw", "internal/sync.runtime_nanotime", "internal/sync.runtime_SemacquireMutex", "sync/atomic.AddInt32", "(*internal/sync.Mutex).Unlock", "internal/race.ReleaseMerge", "(*internal/sync.Mutex).unlockSlow", "internal/sync.fatal", "internal/sync.runtime_Semrelease", "sync/atomic.StoreUint32", "internal/abi.NoEscape"], unfollowed := true, recurses := true, named := ["fusebox/metric.bounds", "internal/strconv.uint64pow10", "math/bits.deBruijn32tab", "math/bits.deBruijn64tab"], apart := false, laid := [("math/bits.deBruijn32tab", laid_math_bits_deBruijn32tab), ("math/bits.deBruijn64tab", laid_math_bits_deBruijn64tab), ("internal/strconv.uint64pow10", laid_internal_strconv_uint64pow10), ("fusebox/metric.bounds", laid_fusebox_metric_bounds)], narrowed := true }
def ExpoEscapesUptoSaid : Prop := expoEscapesUptoRow.holds Tryz.pinned (OpenSpec.upto expoEscapesSpec)

/-- 'fuseboxlaw27.ExpoLines', WHERE WHAT IT READS IS OF BULK AT MOST 1048576: true; the input reads as it did. -/
def expoLinesUptoRow : OpenClaim := { program := "ytknnooannohflaagreatdoor", sum := "79e9f16f076cbecc3807f069cf58a57514fcaeb0aaf4d9d5d25ca1ba1b2ed746", func := "fusebox/fuseboxlaw27.ExpoLines", spec := "expoLines", inPlace := ["sync/atomic.LoadUint32", "(*internal/sync.Mutex).Lock", "internal/race.Disable", "sync/atomic.CompareAndSwapInt32", "internal/race.Enable", "internal/race.Acquire", "(*internal/sync.Mutex).lockSlow", "internal/sync.runtime_canSpin", "internal/sync.runtime_doSpin", "internal/sync.throw", "internal/sync.runtime_nanotime", "internal/sync.runtime_SemacquireMutex", "sync/atomic.AddInt32", "(*internal/sync.Mutex).Unlock", "internal/race.ReleaseMerge", "(*internal/sync.Mutex).unlockSlow", "internal/sync.fatal", "internal/sync.runtime_Semrelease", "sync/atomic.StoreUint32", "internal/abi.NoEscape"], unfollowed := true, recurses := true, named := ["fusebox/metric.bounds", "internal/strconv.uint64pow10", "math/bits.deBruijn32tab", "math/bits.deBruijn64tab"], apart := false, laid := [("math/bits.deBruijn32tab", laid_math_bits_deBruijn32tab), ("math/bits.deBruijn64tab", laid_math_bits_deBruijn64tab), ("internal/strconv.uint64pow10", laid_internal_strconv_uint64pow10), ("fusebox/metric.bounds", laid_fusebox_metric_bounds)], narrowed := true }
def ExpoLinesUptoSaid : Prop := expoLinesUptoRow.holds Tryz.pinned (OpenSpec.upto expoLinesSpec)

/-- 'fuseboxlaw26.MetricRight', WHERE WHAT IT READS IS OF BULK AT MOST 1048576: true; the input reads as it did. -/
def metricRightUptoRow : OpenClaim := { program := "ytknnooannohflaagreatdoor", sum := "79e9f16f076cbecc3807f069cf58a57514fcaeb0aaf4d9d5d25ca1ba1b2ed746", func := "fusebox/fuseboxlaw26.MetricRight", spec := "metricRight", inPlace := ["slices.overlaps[fusebox/api.Comp]", "math.archTrunc", "math.Float64bits", "math.Float64frombits"], unfollowed := true, recurses := true, named := ["fusebox/metric.bounds"], apart := false, laid := [("fusebox/metric.bounds", laid_fusebox_metric_bounds)], narrowed := true }
def MetricRightUptoSaid : Prop := metricRightUptoRow.holds Tryz.pinned (OpenSpec.upto metricRightSpec)

/-- 'fuseboxlaw26.MetricHist', WHERE WHAT IT READS IS OF BULK AT MOST 1048576: true; the input reads as it did. -/
def metricHistUptoRow : OpenClaim := { program := "ytknnooannohflaagreatdoor", sum := "79e9f16f076cbecc3807f069cf58a57514fcaeb0aaf4d9d5d25ca1ba1b2ed746", func := "fusebox/fuseboxlaw26.MetricHist", spec := "metricHist", inPlace := ["slices.overlaps[fusebox/api.Comp]", "math.archTrunc", "math.Float64bits", "math.Float64frombits"], unfollowed := true, recurses := true, named := ["fusebox/metric.bounds"], apart := false, laid := [("fusebox/metric.bounds", laid_fusebox_metric_bounds)], narrowed := true }
def MetricHistUptoSaid : Prop := metricHistUptoRow.holds Tryz.pinned (OpenSpec.upto metricHistSpec)

/-- 'fuseboxlaw28.ParseBack', WHERE WHAT IT READS IS OF BULK AT MOST 1048576: true; the input reads as it did. -/
def parseBackUptoRow : OpenClaim := { program := "ytknnooannohflaagreatdoor", sum := "79e9f16f076cbecc3807f069cf58a57514fcaeb0aaf4d9d5d25ca1ba1b2ed746", func := "fusebox/fuseboxlaw28.ParseBack", spec := "parseBack", inPlace := ["internal/bytealg.IndexByteString", "internal/bytealg.IndexString", "internal/abi.NoEscape", "sync/atomic.LoadUint32", "(*internal/sync.Mutex).Lock", "internal/race.Disable", "sync/atomic.CompareAndSwapInt32", "internal/race.Enable", "internal/race.Acquire", "(*internal/sync.Mutex).lockSlow", "internal/sync.runtime_canSpin", "internal/sync.runtime_doSpin", "internal/sync.throw", "internal/sync.runtime_nanotime", "internal/sync.runtime_SemacquireMutex", "sync/atomic.AddInt32", "(*internal/sync.Mutex).Unlock", "internal/race.ReleaseMerge", "(*internal/sync.Mutex).unlockSlow", "internal/sync.fatal", "internal/sync.runtime_Semrelease", "sync/atomic.StoreUint32"], unfollowed := true, recurses := true, named := ["internal/bytealg.MaxLen", "fusebox/parse.bounds", "fusebox/metric.bounds", "internal/strconv.uint64pow10", "math/bits.deBruijn32tab", "math/bits.deBruijn64tab"], apart := false, laid := [("math/bits.deBruijn32tab", laid_math_bits_deBruijn32tab), ("math/bits.deBruijn64tab", laid_math_bits_deBruijn64tab), ("internal/strconv.uint64pow10", laid_internal_strconv_uint64pow10), ("fusebox/metric.bounds", laid_fusebox_metric_bounds), ("fusebox/parse.bounds", laid_fusebox_parse_bounds)], narrowed := true }
def ParseBackUptoSaid : Prop := parseBackUptoRow.holds Tryz.pinned (OpenSpec.upto parseBackSpec)

end Rows
end Go.Proofs.YtknnooannohflaaGreatDoor
