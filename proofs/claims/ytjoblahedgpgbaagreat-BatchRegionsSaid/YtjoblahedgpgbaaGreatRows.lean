/-
  No cell of these rows narrows 'for every input' (looked for: loops, veiled, ifaces, maps, wideKeys, modest, calm, conditions, laid).
  DERIVED. THE GIVEN ROWS OF THIS SEAT. 12 by the template 'for every input the law returns true; each argument reads behind the call as it read before'; 0 by the template 'total and deterministic' (their statements: YtjoblahedgpgbaaGreatTotals.lean).
  GIVEN WITH THE SEED: the statements are not yours to turn. If you find one false, say at which input.
  Laid BY PROGRAM, IN A SANDBOX (cutbox-rows.mjs): the forced cells as the released guide's own fill.sh prints them over the translation 75a18e6ec2562b69… (all of the seat's roots in one cut). By AI agents, Wed Nov 11 2026. No macro, syntax, notation, axiom, sorry.
-/
import Derived.Test.YtjoblahedgpgbaaGreatChecked
import GoSem.Claim
import GoSem.ClaimJoined
import GoSem.ClaimMapViews
import Derived.JoinedTies
import Derived.KernelRfl
namespace Go.Proofs.YtjoblahedgpgbaaGreat
/- THE CELL 'sum', in the pinned program and in every row, IS THE sha256 OF THE DUMP (.gsa) THAT YtjoblahedgpgbaaGreatProg.lean LOADS. Nothing in Lean hashes anything: it is a label: what it is worth is what the hold of that sum in a sandbox is worth. -/
noncomputable def Tryz.pinned : Pinned := { name := "ytjoblahedgpgbaagreat", sum := "75a18e6ec2562b69a67fb9866cbdf20479f1d347a6d0bda50f5adb43f86c1e31", checked := Tryz.checked }
namespace Rows
def none {H : Type} : Left H := { results := [], args := [] }

/-- 'crossbucklaw17.BatchRegions': WHATEVER THE INPUT: true; the input reads as it did. -/
def batchRegionsSpec : ChangeSpec := { name := "batchRegions", fn := fun _ => fun
  | [d1, d2, d3, d4, d5, d6] => { results := [.lit (.bool true)], args := [d1, d2, d3, d4, d5, d6] }
  | _ => none }
def batchRegionsRow : OpenClaim := { program := "ytjoblahedgpgbaagreat", sum := "75a18e6ec2562b69a67fb9866cbdf20479f1d347a6d0bda50f5adb43f86c1e31", func := "crossbuck/crossbucklaw17.BatchRegions", spec := "batchRegions", inPlace := ["slices.overlaps[int]"], unfollowed := true, recurses := true, plainKeys := false, apart := false }
def BatchRegionsSaid : Prop := batchRegionsRow.holds Tryz.pinned (OpenSpec.ofChange batchRegionsSpec)

/-- ITS FALSE NEIGHBOUR: 'it returns false'. Refute it at one input. -/
def batchRegionsWrong : ChangeSpec := { name := "batchRegions", fn := fun _ => fun
  | [d1, d2, d3, d4, d5, d6] => { results := [.lit (.bool false)], args := [d1, d2, d3, d4, d5, d6] }
  | _ => none }
def BatchRegionsWrongFalsely : Prop := batchRegionsRow.holds Tryz.pinned (OpenSpec.ofChange batchRegionsWrong)

/-- 'crossbucklaw19.ShardWrong': WHATEVER THE INPUT: true; the input reads as it did. -/
def shardWrongSpec : ChangeSpec := { name := "shardWrong", fn := fun _ => fun
  | [d1, d2, d3, d4, d5] => { results := [.lit (.bool true)], args := [d1, d2, d3, d4, d5] }
  | _ => none }
def shardWrongRow : OpenClaim := { program := "ytjoblahedgpgbaagreat", sum := "75a18e6ec2562b69a67fb9866cbdf20479f1d347a6d0bda50f5adb43f86c1e31", func := "crossbuck/crossbucklaw19.ShardWrong", spec := "shardWrong", inPlace := ["math/bits.Add64"], unfollowed := true, recurses := true, plainKeys := false, apart := false }
def ShardWrongSaid : Prop := shardWrongRow.holds Tryz.pinned (OpenSpec.ofChange shardWrongSpec)

/-- ITS FALSE NEIGHBOUR: 'it returns false'. Refute it at one input. -/
def shardWrongWrong : ChangeSpec := { name := "shardWrong", fn := fun _ => fun
  | [d1, d2, d3, d4, d5] => { results := [.lit (.bool false)], args := [d1, d2, d3, d4, d5] }
  | _ => none }
def ShardWrongWrongFalsely : Prop := shardWrongRow.holds Tryz.pinned (OpenSpec.ofChange shardWrongWrong)

/-- 'crossbucklaw19.ShardRegions': WHATEVER THE INPUT: true; the input reads as it did. -/
def shardRegionsSpec : ChangeSpec := { name := "shardRegions", fn := fun _ => fun
  | [d1, d2, d3, d4] => { results := [.lit (.bool true)], args := [d1, d2, d3, d4] }
  | _ => none }
def shardRegionsRow : OpenClaim := { program := "ytjoblahedgpgbaagreat", sum := "75a18e6ec2562b69a67fb9866cbdf20479f1d347a6d0bda50f5adb43f86c1e31", func := "crossbuck/crossbucklaw19.ShardRegions", spec := "shardRegions", inPlace := ["math/bits.Add64", "slices.overlaps[int]"], unfollowed := true, recurses := true, plainKeys := false, apart := false }
def ShardRegionsSaid : Prop := shardRegionsRow.holds Tryz.pinned (OpenSpec.ofChange shardRegionsSpec)

/-- ITS FALSE NEIGHBOUR: 'it returns false'. Refute it at one input. -/
def shardRegionsWrong : ChangeSpec := { name := "shardRegions", fn := fun _ => fun
  | [d1, d2, d3, d4] => { results := [.lit (.bool false)], args := [d1, d2, d3, d4] }
  | _ => none }
def ShardRegionsWrongFalsely : Prop := shardRegionsRow.holds Tryz.pinned (OpenSpec.ofChange shardRegionsWrong)

/-- 'crossbucklaw24.AuditFlows': WHATEVER THE INPUT: true; the input reads as it did. -/
def auditFlowsSpec : ChangeSpec := { name := "auditFlows", fn := fun _ => fun
  | [d1, d2, d3, d4] => { results := [.lit (.bool true)], args := [d1, d2, d3, d4] }
  | _ => none }
def auditFlowsRow : OpenClaim := { program := "ytjoblahedgpgbaagreat", sum := "75a18e6ec2562b69a67fb9866cbdf20479f1d347a6d0bda50f5adb43f86c1e31", func := "crossbuck/crossbucklaw24.AuditFlows", spec := "auditFlows", inPlace := ["math/bits.Add64", "slices.overlaps[int]"], unfollowed := true, recurses := true, plainKeys := false, apart := false }
def AuditFlowsSaid : Prop := auditFlowsRow.holds Tryz.pinned (OpenSpec.ofChange auditFlowsSpec)

/-- ITS FALSE NEIGHBOUR: 'it returns false'. Refute it at one input. -/
def auditFlowsWrong : ChangeSpec := { name := "auditFlows", fn := fun _ => fun
  | [d1, d2, d3, d4] => { results := [.lit (.bool false)], args := [d1, d2, d3, d4] }
  | _ => none }
def AuditFlowsWrongFalsely : Prop := auditFlowsRow.holds Tryz.pinned (OpenSpec.ofChange auditFlowsWrong)

/-- 'crossbucklaw21.TaskSteps': WHATEVER THE INPUT: true; the input reads as it did. -/
def taskStepsSpec : ChangeSpec := { name := "taskSteps", fn := fun _ => fun
  | [d1, d2, d3] => { results := [.lit (.bool true)], args := [d1, d2, d3] }
  | _ => none }
def taskStepsRow : OpenClaim := { program := "ytjoblahedgpgbaagreat", sum := "75a18e6ec2562b69a67fb9866cbdf20479f1d347a6d0bda50f5adb43f86c1e31", func := "crossbuck/crossbucklaw21.TaskSteps", spec := "taskSteps", inPlace := ["slices.overlaps[int]", "math/bits.Add64"], unfollowed := true, recurses := true, plainKeys := false, apart := false }
def TaskStepsSaid : Prop := taskStepsRow.holds Tryz.pinned (OpenSpec.ofChange taskStepsSpec)

/-- ITS FALSE NEIGHBOUR: 'it returns false'. Refute it at one input. -/
def taskStepsWrong : ChangeSpec := { name := "taskSteps", fn := fun _ => fun
  | [d1, d2, d3] => { results := [.lit (.bool false)], args := [d1, d2, d3] }
  | _ => none }
def TaskStepsWrongFalsely : Prop := taskStepsRow.holds Tryz.pinned (OpenSpec.ofChange taskStepsWrong)

/-- 'crossbucklaw21.TaskWaits': WHATEVER THE INPUT: true; the input reads as it did. -/
def taskWaitsSpec : ChangeSpec := { name := "taskWaits", fn := fun _ => fun
  | [d1, d2, d3] => { results := [.lit (.bool true)], args := [d1, d2, d3] }
  | _ => none }
def taskWaitsRow : OpenClaim := { program := "ytjoblahedgpgbaagreat", sum := "75a18e6ec2562b69a67fb9866cbdf20479f1d347a6d0bda50f5adb43f86c1e31", func := "crossbuck/crossbucklaw21.TaskWaits", spec := "taskWaits", inPlace := ["slices.overlaps[int]", "math/bits.Add64"], unfollowed := true, recurses := true, plainKeys := false, apart := false }
def TaskWaitsSaid : Prop := taskWaitsRow.holds Tryz.pinned (OpenSpec.ofChange taskWaitsSpec)

/-- ITS FALSE NEIGHBOUR: 'it returns false'. Refute it at one input. -/
def taskWaitsWrong : ChangeSpec := { name := "taskWaits", fn := fun _ => fun
  | [d1, d2, d3] => { results := [.lit (.bool false)], args := [d1, d2, d3] }
  | _ => none }
def TaskWaitsWrongFalsely : Prop := taskWaitsRow.holds Tryz.pinned (OpenSpec.ofChange taskWaitsWrong)

/-- 'crossbucklaw24.AuditNets': WHATEVER THE INPUT: true; the input reads as it did. -/
def auditNetsSpec : ChangeSpec := { name := "auditNets", fn := fun _ => fun
  | [d1, d2] => { results := [.lit (.bool true)], args := [d1, d2] }
  | _ => none }
def auditNetsRow : OpenClaim := { program := "ytjoblahedgpgbaagreat", sum := "75a18e6ec2562b69a67fb9866cbdf20479f1d347a6d0bda50f5adb43f86c1e31", func := "crossbuck/crossbucklaw24.AuditNets", spec := "auditNets", inPlace := ["math/bits.Add64", "slices.overlaps[int]"], unfollowed := true, recurses := true, plainKeys := false, apart := false }
def AuditNetsSaid : Prop := auditNetsRow.holds Tryz.pinned (OpenSpec.ofChange auditNetsSpec)

/-- ITS FALSE NEIGHBOUR: 'it returns false'. Refute it at one input. -/
def auditNetsWrong : ChangeSpec := { name := "auditNets", fn := fun _ => fun
  | [d1, d2] => { results := [.lit (.bool false)], args := [d1, d2] }
  | _ => none }
def AuditNetsWrongFalsely : Prop := auditNetsRow.holds Tryz.pinned (OpenSpec.ofChange auditNetsWrong)

/-- 'crossbucklaw23.HistoryTimes': WHATEVER THE INPUT: true; the input reads as it did. -/
def historyTimesSpec : ChangeSpec := { name := "historyTimes", fn := fun _ => fun
  | [d] => { results := [.lit (.bool true)], args := [d] }
  | _ => none }
def historyTimesRow : OpenClaim := { program := "ytjoblahedgpgbaagreat", sum := "75a18e6ec2562b69a67fb9866cbdf20479f1d347a6d0bda50f5adb43f86c1e31", func := "crossbuck/crossbucklaw23.HistoryTimes", spec := "historyTimes", inPlace := ["slices.overlaps[int]", "math/bits.Add64"], unfollowed := true, recurses := true, plainKeys := false, apart := false }
def HistoryTimesSaid : Prop := historyTimesRow.holds Tryz.pinned (OpenSpec.ofChange historyTimesSpec)

/-- ITS FALSE NEIGHBOUR: 'it returns false'. Refute it at one input. -/
def historyTimesWrong : ChangeSpec := { name := "historyTimes", fn := fun _ => fun
  | [d] => { results := [.lit (.bool false)], args := [d] }
  | _ => none }
def HistoryTimesWrongFalsely : Prop := historyTimesRow.holds Tryz.pinned (OpenSpec.ofChange historyTimesWrong)

/-- 'crossbucklaw23.HistoryAlike': WHATEVER THE INPUT: true; the input reads as it did. -/
def historyAlikeSpec : ChangeSpec := { name := "historyAlike", fn := fun _ => fun
  | [d1, d2, d3, d4, d5] => { results := [.lit (.bool true)], args := [d1, d2, d3, d4, d5] }
  | _ => none }
def historyAlikeRow : OpenClaim := { program := "ytjoblahedgpgbaagreat", sum := "75a18e6ec2562b69a67fb9866cbdf20479f1d347a6d0bda50f5adb43f86c1e31", func := "crossbuck/crossbucklaw23.HistoryAlike", spec := "historyAlike", inPlace := ["slices.overlaps[int]", "math/bits.Add64"], unfollowed := true, recurses := true, plainKeys := false, apart := false }
def HistoryAlikeSaid : Prop := historyAlikeRow.holds Tryz.pinned (OpenSpec.ofChange historyAlikeSpec)

/-- ITS FALSE NEIGHBOUR: 'it returns false'. Refute it at one input. -/
def historyAlikeWrong : ChangeSpec := { name := "historyAlike", fn := fun _ => fun
  | [d1, d2, d3, d4, d5] => { results := [.lit (.bool false)], args := [d1, d2, d3, d4, d5] }
  | _ => none }
def HistoryAlikeWrongFalsely : Prop := historyAlikeRow.holds Tryz.pinned (OpenSpec.ofChange historyAlikeWrong)

/-- 'crossbucklaw23.HistoryOrders': WHATEVER THE INPUT: true; the input reads as it did. -/
def historyOrdersSpec : ChangeSpec := { name := "historyOrders", fn := fun _ => fun
  | [d] => { results := [.lit (.bool true)], args := [d] }
  | _ => none }
def historyOrdersRow : OpenClaim := { program := "ytjoblahedgpgbaagreat", sum := "75a18e6ec2562b69a67fb9866cbdf20479f1d347a6d0bda50f5adb43f86c1e31", func := "crossbuck/crossbucklaw23.HistoryOrders", spec := "historyOrders", inPlace := ["slices.overlaps[int]", "math/bits.Add64"], unfollowed := true, recurses := true, plainKeys := false, apart := false }
def HistoryOrdersSaid : Prop := historyOrdersRow.holds Tryz.pinned (OpenSpec.ofChange historyOrdersSpec)

/-- ITS FALSE NEIGHBOUR: 'it returns false'. Refute it at one input. -/
def historyOrdersWrong : ChangeSpec := { name := "historyOrders", fn := fun _ => fun
  | [d] => { results := [.lit (.bool false)], args := [d] }
  | _ => none }
def HistoryOrdersWrongFalsely : Prop := historyOrdersRow.holds Tryz.pinned (OpenSpec.ofChange historyOrdersWrong)

/-- 'crossbucklaw24.AuditUnsound': WHATEVER THE INPUT: true; the input reads as it did. -/
def auditUnsoundSpec : ChangeSpec := { name := "auditUnsound", fn := fun _ => fun
  | [d1, d2, d3] => { results := [.lit (.bool true)], args := [d1, d2, d3] }
  | _ => none }
def auditUnsoundRow : OpenClaim := { program := "ytjoblahedgpgbaagreat", sum := "75a18e6ec2562b69a67fb9866cbdf20479f1d347a6d0bda50f5adb43f86c1e31", func := "crossbuck/crossbucklaw24.AuditUnsound", spec := "auditUnsound", inPlace := ["math/bits.Add64", "slices.overlaps[int]"], unfollowed := true, recurses := true, plainKeys := false, apart := false }
def AuditUnsoundSaid : Prop := auditUnsoundRow.holds Tryz.pinned (OpenSpec.ofChange auditUnsoundSpec)

/-- ITS FALSE NEIGHBOUR: 'it returns false'. Refute it at one input. -/
def auditUnsoundWrong : ChangeSpec := { name := "auditUnsound", fn := fun _ => fun
  | [d1, d2, d3] => { results := [.lit (.bool false)], args := [d1, d2, d3] }
  | _ => none }
def AuditUnsoundWrongFalsely : Prop := auditUnsoundRow.holds Tryz.pinned (OpenSpec.ofChange auditUnsoundWrong)

/-- 'crossbucklaw24.AuditHidden': WHATEVER THE INPUT: true; the input reads as it did. -/
def auditHiddenSpec : ChangeSpec := { name := "auditHidden", fn := fun _ => fun
  | [d1, d2, d3, d4] => { results := [.lit (.bool true)], args := [d1, d2, d3, d4] }
  | _ => none }
def auditHiddenRow : OpenClaim := { program := "ytjoblahedgpgbaagreat", sum := "75a18e6ec2562b69a67fb9866cbdf20479f1d347a6d0bda50f5adb43f86c1e31", func := "crossbuck/crossbucklaw24.AuditHidden", spec := "auditHidden", inPlace := ["math/bits.Add64", "slices.overlaps[int]"], unfollowed := true, recurses := true, plainKeys := false, apart := false }
def AuditHiddenSaid : Prop := auditHiddenRow.holds Tryz.pinned (OpenSpec.ofChange auditHiddenSpec)

/-- ITS FALSE NEIGHBOUR: 'it returns false'. Refute it at one input. -/
def auditHiddenWrong : ChangeSpec := { name := "auditHidden", fn := fun _ => fun
  | [d1, d2, d3, d4] => { results := [.lit (.bool false)], args := [d1, d2, d3, d4] }
  | _ => none }
def AuditHiddenWrongFalsely : Prop := auditHiddenRow.holds Tryz.pinned (OpenSpec.ofChange auditHiddenWrong)

/- THE SECOND FORM. 'bulk': how many values and letters a reading holds, each counted each time it is reached (what is shared counts as often as it is met; a slice's spare places count too). A statement '..UptoSaid' is the law's where the arguments, and the package variables that the reading takes, are together of bulk at most 1048576: NARROWER than '..Said'. Prove '..Said' where nothing that the law and all that it calls make is longer than what came in: it says more and counts as full. Else prove '..UptoSaid'. A law counts once. -/
mutual
def uptoBulk {H : Type} : DataW H → Nat
  | .lit (.string bytes) => bytes.length + 1
  | .lit _ => 1
  | .nil => 1
  | .ptr d => uptoBulk d + 1
  | .slice elems spare => uptoBulkAll elems + uptoBulkAll spare + 1
  | .agg parts => uptoBulkAll parts + 1
  | .iface _ d => uptoBulk d + 1
  | .map entries => uptoBulkEntries entries + 1
  | .held _ => 1
def uptoBulkAll {H : Type} : List (DataW H) → Nat
  | [] => 0
  | d :: r => uptoBulk d + uptoBulkAll r
def uptoBulkEntries {H : Type} : List (Lit × DataW H) → Nat
  | [] => 0
  | x :: r => uptoBulkEntry x + uptoBulkEntries r
def uptoBulkEntry {H : Type} : Lit × DataW H → Nat
  | (.string bytes, d) => bytes.length + uptoBulk d + 1
  | (_, d) => uptoBulk d + 1
 end
def uptoSmall : (H : Type) → List (DataW H) → Bool := fun _ ds => decide (uptoBulkAll ds ≤ 1048576)
def OpenSpec.upto (s : _root_.Go.ChangeSpec) : _root_.Go.OpenSpec := { _root_.Go.OpenSpec.ofChange s with cond := some uptoSmall }

/-- 'crossbucklaw17.BatchRegions', WHERE WHAT IT READS IS OF BULK AT MOST 1048576: true; the input reads as it did. -/
def batchRegionsUptoRow : OpenClaim := { program := "ytjoblahedgpgbaagreat", sum := "75a18e6ec2562b69a67fb9866cbdf20479f1d347a6d0bda50f5adb43f86c1e31", func := "crossbuck/crossbucklaw17.BatchRegions", spec := "batchRegions", inPlace := ["slices.overlaps[int]"], unfollowed := true, recurses := true, plainKeys := false, apart := false, narrowed := true }
def BatchRegionsUptoSaid : Prop := batchRegionsUptoRow.holds Tryz.pinned (OpenSpec.upto batchRegionsSpec)

/-- 'crossbucklaw19.ShardWrong', WHERE WHAT IT READS IS OF BULK AT MOST 1048576: true; the input reads as it did. -/
def shardWrongUptoRow : OpenClaim := { program := "ytjoblahedgpgbaagreat", sum := "75a18e6ec2562b69a67fb9866cbdf20479f1d347a6d0bda50f5adb43f86c1e31", func := "crossbuck/crossbucklaw19.ShardWrong", spec := "shardWrong", inPlace := ["math/bits.Add64"], unfollowed := true, recurses := true, plainKeys := false, apart := false, narrowed := true }
def ShardWrongUptoSaid : Prop := shardWrongUptoRow.holds Tryz.pinned (OpenSpec.upto shardWrongSpec)

/-- 'crossbucklaw19.ShardRegions', WHERE WHAT IT READS IS OF BULK AT MOST 1048576: true; the input reads as it did. -/
def shardRegionsUptoRow : OpenClaim := { program := "ytjoblahedgpgbaagreat", sum := "75a18e6ec2562b69a67fb9866cbdf20479f1d347a6d0bda50f5adb43f86c1e31", func := "crossbuck/crossbucklaw19.ShardRegions", spec := "shardRegions", inPlace := ["math/bits.Add64", "slices.overlaps[int]"], unfollowed := true, recurses := true, plainKeys := false, apart := false, narrowed := true }
def ShardRegionsUptoSaid : Prop := shardRegionsUptoRow.holds Tryz.pinned (OpenSpec.upto shardRegionsSpec)

/-- 'crossbucklaw24.AuditFlows', WHERE WHAT IT READS IS OF BULK AT MOST 1048576: true; the input reads as it did. -/
def auditFlowsUptoRow : OpenClaim := { program := "ytjoblahedgpgbaagreat", sum := "75a18e6ec2562b69a67fb9866cbdf20479f1d347a6d0bda50f5adb43f86c1e31", func := "crossbuck/crossbucklaw24.AuditFlows", spec := "auditFlows", inPlace := ["math/bits.Add64", "slices.overlaps[int]"], unfollowed := true, recurses := true, plainKeys := false, apart := false, narrowed := true }
def AuditFlowsUptoSaid : Prop := auditFlowsUptoRow.holds Tryz.pinned (OpenSpec.upto auditFlowsSpec)

/-- 'crossbucklaw21.TaskSteps', WHERE WHAT IT READS IS OF BULK AT MOST 1048576: true; the input reads as it did. -/
def taskStepsUptoRow : OpenClaim := { program := "ytjoblahedgpgbaagreat", sum := "75a18e6ec2562b69a67fb9866cbdf20479f1d347a6d0bda50f5adb43f86c1e31", func := "crossbuck/crossbucklaw21.TaskSteps", spec := "taskSteps", inPlace := ["slices.overlaps[int]", "math/bits.Add64"], unfollowed := true, recurses := true, plainKeys := false, apart := false, narrowed := true }
def TaskStepsUptoSaid : Prop := taskStepsUptoRow.holds Tryz.pinned (OpenSpec.upto taskStepsSpec)

/-- 'crossbucklaw21.TaskWaits', WHERE WHAT IT READS IS OF BULK AT MOST 1048576: true; the input reads as it did. -/
def taskWaitsUptoRow : OpenClaim := { program := "ytjoblahedgpgbaagreat", sum := "75a18e6ec2562b69a67fb9866cbdf20479f1d347a6d0bda50f5adb43f86c1e31", func := "crossbuck/crossbucklaw21.TaskWaits", spec := "taskWaits", inPlace := ["slices.overlaps[int]", "math/bits.Add64"], unfollowed := true, recurses := true, plainKeys := false, apart := false, narrowed := true }
def TaskWaitsUptoSaid : Prop := taskWaitsUptoRow.holds Tryz.pinned (OpenSpec.upto taskWaitsSpec)

/-- 'crossbucklaw24.AuditNets', WHERE WHAT IT READS IS OF BULK AT MOST 1048576: true; the input reads as it did. -/
def auditNetsUptoRow : OpenClaim := { program := "ytjoblahedgpgbaagreat", sum := "75a18e6ec2562b69a67fb9866cbdf20479f1d347a6d0bda50f5adb43f86c1e31", func := "crossbuck/crossbucklaw24.AuditNets", spec := "auditNets", inPlace := ["math/bits.Add64", "slices.overlaps[int]"], unfollowed := true, recurses := true, plainKeys := false, apart := false, narrowed := true }
def AuditNetsUptoSaid : Prop := auditNetsUptoRow.holds Tryz.pinned (OpenSpec.upto auditNetsSpec)

/-- 'crossbucklaw23.HistoryTimes', WHERE WHAT IT READS IS OF BULK AT MOST 1048576: true; the input reads as it did. -/
def historyTimesUptoRow : OpenClaim := { program := "ytjoblahedgpgbaagreat", sum := "75a18e6ec2562b69a67fb9866cbdf20479f1d347a6d0bda50f5adb43f86c1e31", func := "crossbuck/crossbucklaw23.HistoryTimes", spec := "historyTimes", inPlace := ["slices.overlaps[int]", "math/bits.Add64"], unfollowed := true, recurses := true, plainKeys := false, apart := false, narrowed := true }
def HistoryTimesUptoSaid : Prop := historyTimesUptoRow.holds Tryz.pinned (OpenSpec.upto historyTimesSpec)

/-- 'crossbucklaw23.HistoryAlike', WHERE WHAT IT READS IS OF BULK AT MOST 1048576: true; the input reads as it did. -/
def historyAlikeUptoRow : OpenClaim := { program := "ytjoblahedgpgbaagreat", sum := "75a18e6ec2562b69a67fb9866cbdf20479f1d347a6d0bda50f5adb43f86c1e31", func := "crossbuck/crossbucklaw23.HistoryAlike", spec := "historyAlike", inPlace := ["slices.overlaps[int]", "math/bits.Add64"], unfollowed := true, recurses := true, plainKeys := false, apart := false, narrowed := true }
def HistoryAlikeUptoSaid : Prop := historyAlikeUptoRow.holds Tryz.pinned (OpenSpec.upto historyAlikeSpec)

/-- 'crossbucklaw23.HistoryOrders', WHERE WHAT IT READS IS OF BULK AT MOST 1048576: true; the input reads as it did. -/
def historyOrdersUptoRow : OpenClaim := { program := "ytjoblahedgpgbaagreat", sum := "75a18e6ec2562b69a67fb9866cbdf20479f1d347a6d0bda50f5adb43f86c1e31", func := "crossbuck/crossbucklaw23.HistoryOrders", spec := "historyOrders", inPlace := ["slices.overlaps[int]", "math/bits.Add64"], unfollowed := true, recurses := true, plainKeys := false, apart := false, narrowed := true }
def HistoryOrdersUptoSaid : Prop := historyOrdersUptoRow.holds Tryz.pinned (OpenSpec.upto historyOrdersSpec)

/-- 'crossbucklaw24.AuditUnsound', WHERE WHAT IT READS IS OF BULK AT MOST 1048576: true; the input reads as it did. -/
def auditUnsoundUptoRow : OpenClaim := { program := "ytjoblahedgpgbaagreat", sum := "75a18e6ec2562b69a67fb9866cbdf20479f1d347a6d0bda50f5adb43f86c1e31", func := "crossbuck/crossbucklaw24.AuditUnsound", spec := "auditUnsound", inPlace := ["math/bits.Add64", "slices.overlaps[int]"], unfollowed := true, recurses := true, plainKeys := false, apart := false, narrowed := true }
def AuditUnsoundUptoSaid : Prop := auditUnsoundUptoRow.holds Tryz.pinned (OpenSpec.upto auditUnsoundSpec)

/-- 'crossbucklaw24.AuditHidden', WHERE WHAT IT READS IS OF BULK AT MOST 1048576: true; the input reads as it did. -/
def auditHiddenUptoRow : OpenClaim := { program := "ytjoblahedgpgbaagreat", sum := "75a18e6ec2562b69a67fb9866cbdf20479f1d347a6d0bda50f5adb43f86c1e31", func := "crossbuck/crossbucklaw24.AuditHidden", spec := "auditHidden", inPlace := ["math/bits.Add64", "slices.overlaps[int]"], unfollowed := true, recurses := true, plainKeys := false, apart := false, narrowed := true }
def AuditHiddenUptoSaid : Prop := auditHiddenUptoRow.holds Tryz.pinned (OpenSpec.upto auditHiddenSpec)

end Rows
end Go.Proofs.YtjoblahedgpgbaaGreat
