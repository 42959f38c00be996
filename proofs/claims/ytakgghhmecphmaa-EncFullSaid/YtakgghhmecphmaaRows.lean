/-
  No cell of these rows narrows 'for every input' (looked for: loops, veiled, ifaces, maps, wideKeys, modest, calm, conditions, laid).
  DERIVED. THE GIVEN ROWS OF THIS SEAT. 14 by the template 'for every input the law returns true; each argument reads behind the call as it read before'; 0 by the template 'total and deterministic' (their statements: YtakgghhmecphmaaTotals.lean).
  GIVEN WITH THE SEED: the statements are not yours to turn. If you find one false, say at which input.
  Laid BY PROGRAM, IN A SANDBOX (cutbox-rows.mjs): the forced cells as the released guide's own fill.sh prints them over the translation 1ff7204da2c1ef2a… (all of the seat's roots in one cut). By AI agents, Wed Nov 11 2026. No macro, syntax, notation, axiom, sorry.
-/
import Derived.Test.YtakgghhmecphmaaChecked
import GoSem.Claim
import GoSem.ClaimJoined
import GoSem.ClaimMapViews
import Derived.JoinedTies
import Derived.KernelRfl
namespace Go.Proofs.Ytakgghhmecphmaa
/- THE CELL 'sum', in the pinned program and in every row, IS THE sha256 OF THE DUMP (.gsa) THAT YtakgghhmecphmaaProg.lean LOADS. Nothing in Lean hashes anything: it is a label: what it is worth is what the hold of that sum in a sandbox is worth. -/
noncomputable def Try.pinned : Pinned := { name := "ytakgghhmecphmaa", sum := "1ff7204da2c1ef2a569084f41a59e8e89ff8dca4e733a9313d4050925a5020bd", checked := Try.checked }
namespace Rows
def none {H : Type} : Left H := { results := [], args := [] }

/-- 'crossbucklaw07.EncHeaders': WHATEVER THE INPUT: true; the input reads as it did. -/
def encHeadersSpec : ChangeSpec := { name := "encHeaders", fn := fun _ => fun
  | [d1, d2] => { results := [.lit (.bool true)], args := [d1, d2] }
  | _ => none }
def encHeadersRow : OpenClaim := { program := "ytakgghhmecphmaa", sum := "1ff7204da2c1ef2a569084f41a59e8e89ff8dca4e733a9313d4050925a5020bd", func := "crossbuck/crossbucklaw07.EncHeaders", spec := "encHeaders", plainKeys := false, apart := false }
def EncHeadersSaid : Prop := encHeadersRow.holds Try.pinned (OpenSpec.ofChange encHeadersSpec)

/-- ITS FALSE NEIGHBOUR: 'it returns false'. Refute it at one input. -/
def encHeadersWrong : ChangeSpec := { name := "encHeaders", fn := fun _ => fun
  | [d1, d2] => { results := [.lit (.bool false)], args := [d1, d2] }
  | _ => none }
def EncHeadersWrongFalsely : Prop := encHeadersRow.holds Try.pinned (OpenSpec.ofChange encHeadersWrong)

/-- 'crossbucklaw08.SatCubes': WHATEVER THE INPUT: true; the input reads as it did. -/
def satCubesSpec : ChangeSpec := { name := "satCubes", fn := fun _ => fun
  | [d1, d2] => { results := [.lit (.bool true)], args := [d1, d2] }
  | _ => none }
def satCubesRow : OpenClaim := { program := "ytakgghhmecphmaa", sum := "1ff7204da2c1ef2a569084f41a59e8e89ff8dca4e733a9313d4050925a5020bd", func := "crossbuck/crossbucklaw08.SatCubes", spec := "satCubes", inPlace := ["math/bits.Add64"], recurses := true, plainKeys := false, apart := false }
def SatCubesSaid : Prop := satCubesRow.holds Try.pinned (OpenSpec.ofChange satCubesSpec)

/-- ITS FALSE NEIGHBOUR: 'it returns false'. Refute it at one input. -/
def satCubesWrong : ChangeSpec := { name := "satCubes", fn := fun _ => fun
  | [d1, d2] => { results := [.lit (.bool false)], args := [d1, d2] }
  | _ => none }
def SatCubesWrongFalsely : Prop := satCubesRow.holds Try.pinned (OpenSpec.ofChange satCubesWrong)

/-- 'crossbucklaw06.BddFull': WHATEVER THE INPUT: true; the input reads as it did. -/
def bddFullSpec : ChangeSpec := { name := "bddFull", fn := fun _ => fun
  | [d1, d2] => { results := [.lit (.bool true)], args := [d1, d2] }
  | _ => none }
def bddFullRow : OpenClaim := { program := "ytakgghhmecphmaa", sum := "1ff7204da2c1ef2a569084f41a59e8e89ff8dca4e733a9313d4050925a5020bd", func := "crossbuck/crossbucklaw06.BddFull", spec := "bddFull", recurses := true, plainKeys := false, apart := false }
def BddFullSaid : Prop := bddFullRow.holds Try.pinned (OpenSpec.ofChange bddFullSpec)

/-- ITS FALSE NEIGHBOUR: 'it returns false'. Refute it at one input. -/
def bddFullWrong : ChangeSpec := { name := "bddFull", fn := fun _ => fun
  | [d1, d2] => { results := [.lit (.bool false)], args := [d1, d2] }
  | _ => none }
def BddFullWrongFalsely : Prop := bddFullRow.holds Try.pinned (OpenSpec.ofChange bddFullWrong)

/-- 'crossbucklaw06.BddLaws': WHATEVER THE INPUT: true; the input reads as it did. -/
def bddLawsSpec : ChangeSpec := { name := "bddLaws", fn := fun _ => fun
  | [d] => { results := [.lit (.bool true)], args := [d] }
  | _ => none }
def bddLawsRow : OpenClaim := { program := "ytakgghhmecphmaa", sum := "1ff7204da2c1ef2a569084f41a59e8e89ff8dca4e733a9313d4050925a5020bd", func := "crossbuck/crossbucklaw06.BddLaws", spec := "bddLaws", unfollowed := true, recurses := true, plainKeys := false, apart := false }
def BddLawsSaid : Prop := bddLawsRow.holds Try.pinned (OpenSpec.ofChange bddLawsSpec)

/-- ITS FALSE NEIGHBOUR: 'it returns false'. Refute it at one input. -/
def bddLawsWrong : ChangeSpec := { name := "bddLaws", fn := fun _ => fun
  | [d] => { results := [.lit (.bool false)], args := [d] }
  | _ => none }
def BddLawsWrongFalsely : Prop := bddLawsRow.holds Try.pinned (OpenSpec.ofChange bddLawsWrong)

/-- 'crossbucklaw06.BddHeld': WHATEVER THE INPUT: true; the input reads as it did. -/
def bddHeldSpec : ChangeSpec := { name := "bddHeld", fn := fun _ => fun
  | [d1, d2] => { results := [.lit (.bool true)], args := [d1, d2] }
  | _ => none }
def bddHeldRow : OpenClaim := { program := "ytakgghhmecphmaa", sum := "1ff7204da2c1ef2a569084f41a59e8e89ff8dca4e733a9313d4050925a5020bd", func := "crossbuck/crossbucklaw06.BddHeld", spec := "bddHeld", recurses := true, plainKeys := false, apart := false }
def BddHeldSaid : Prop := bddHeldRow.holds Try.pinned (OpenSpec.ofChange bddHeldSpec)

/-- ITS FALSE NEIGHBOUR: 'it returns false'. Refute it at one input. -/
def bddHeldWrong : ChangeSpec := { name := "bddHeld", fn := fun _ => fun
  | [d1, d2] => { results := [.lit (.bool false)], args := [d1, d2] }
  | _ => none }
def BddHeldWrongFalsely : Prop := bddHeldRow.holds Try.pinned (OpenSpec.ofChange bddHeldWrong)

/-- 'crossbucklaw06.BddNodes': WHATEVER THE INPUT: true; the input reads as it did. -/
def bddNodesSpec : ChangeSpec := { name := "bddNodes", fn := fun _ => fun
  | [d1, d2] => { results := [.lit (.bool true)], args := [d1, d2] }
  | _ => none }
def bddNodesRow : OpenClaim := { program := "ytakgghhmecphmaa", sum := "1ff7204da2c1ef2a569084f41a59e8e89ff8dca4e733a9313d4050925a5020bd", func := "crossbuck/crossbucklaw06.BddNodes", spec := "bddNodes", recurses := true, plainKeys := false, apart := false }
def BddNodesSaid : Prop := bddNodesRow.holds Try.pinned (OpenSpec.ofChange bddNodesSpec)

/-- ITS FALSE NEIGHBOUR: 'it returns false'. Refute it at one input. -/
def bddNodesWrong : ChangeSpec := { name := "bddNodes", fn := fun _ => fun
  | [d1, d2] => { results := [.lit (.bool false)], args := [d1, d2] }
  | _ => none }
def BddNodesWrongFalsely : Prop := bddNodesRow.holds Try.pinned (OpenSpec.ofChange bddNodesWrong)

/-- 'crossbucklaw06.BddSets': WHATEVER THE INPUT: true; the input reads as it did. -/
def bddSetsSpec : ChangeSpec := { name := "bddSets", fn := fun _ => fun
  | [d1, d2] => { results := [.lit (.bool true)], args := [d1, d2] }
  | _ => none }
def bddSetsRow : OpenClaim := { program := "ytakgghhmecphmaa", sum := "1ff7204da2c1ef2a569084f41a59e8e89ff8dca4e733a9313d4050925a5020bd", func := "crossbuck/crossbucklaw06.BddSets", spec := "bddSets", recurses := true, plainKeys := false, apart := false }
def BddSetsSaid : Prop := bddSetsRow.holds Try.pinned (OpenSpec.ofChange bddSetsSpec)

/-- ITS FALSE NEIGHBOUR: 'it returns false'. Refute it at one input. -/
def bddSetsWrong : ChangeSpec := { name := "bddSets", fn := fun _ => fun
  | [d1, d2] => { results := [.lit (.bool false)], args := [d1, d2] }
  | _ => none }
def BddSetsWrongFalsely : Prop := bddSetsRow.holds Try.pinned (OpenSpec.ofChange bddSetsWrong)

/-- 'crossbucklaw06.BddWrong': WHATEVER THE INPUT: true; the input reads as it did. -/
def bddWrongSpec : ChangeSpec := { name := "bddWrong", fn := fun _ => fun
  | [d1, d2, d3, d4] => { results := [.lit (.bool true)], args := [d1, d2, d3, d4] }
  | _ => none }
def bddWrongRow : OpenClaim := { program := "ytakgghhmecphmaa", sum := "1ff7204da2c1ef2a569084f41a59e8e89ff8dca4e733a9313d4050925a5020bd", func := "crossbuck/crossbucklaw06.BddWrong", spec := "bddWrong", recurses := true, plainKeys := false, apart := false }
def BddWrongSaid : Prop := bddWrongRow.holds Try.pinned (OpenSpec.ofChange bddWrongSpec)

/-- ITS FALSE NEIGHBOUR: 'it returns false'. Refute it at one input. -/
def bddWrongWrong : ChangeSpec := { name := "bddWrong", fn := fun _ => fun
  | [d1, d2, d3, d4] => { results := [.lit (.bool false)], args := [d1, d2, d3, d4] }
  | _ => none }
def BddWrongWrongFalsely : Prop := bddWrongRow.holds Try.pinned (OpenSpec.ofChange bddWrongWrong)

/-- 'crossbucklaw07.EncFull': WHATEVER THE INPUT: true; the input reads as it did. -/
def encFullSpec : ChangeSpec := { name := "encFull", fn := fun _ => fun
  | [d1, d2, d3] => { results := [.lit (.bool true)], args := [d1, d2, d3] }
  | _ => none }
def encFullRow : OpenClaim := { program := "ytakgghhmecphmaa", sum := "1ff7204da2c1ef2a569084f41a59e8e89ff8dca4e733a9313d4050925a5020bd", func := "crossbuck/crossbucklaw07.EncFull", spec := "encFull", unfollowed := true, recurses := true, plainKeys := false, apart := false }
def EncFullSaid : Prop := encFullRow.holds Try.pinned (OpenSpec.ofChange encFullSpec)

/-- ITS FALSE NEIGHBOUR: 'it returns false'. Refute it at one input. -/
def encFullWrong : ChangeSpec := { name := "encFull", fn := fun _ => fun
  | [d1, d2, d3] => { results := [.lit (.bool false)], args := [d1, d2, d3] }
  | _ => none }
def EncFullWrongFalsely : Prop := encFullRow.holds Try.pinned (OpenSpec.ofChange encFullWrong)

/-- 'crossbucklaw08.SatCounts': WHATEVER THE INPUT: true; the input reads as it did. -/
def satCountsSpec : ChangeSpec := { name := "satCounts", fn := fun _ => fun
  | [d] => { results := [.lit (.bool true)], args := [d] }
  | _ => none }
def satCountsRow : OpenClaim := { program := "ytakgghhmecphmaa", sum := "1ff7204da2c1ef2a569084f41a59e8e89ff8dca4e733a9313d4050925a5020bd", func := "crossbuck/crossbucklaw08.SatCounts", spec := "satCounts", inPlace := ["math/bits.Add64"], recurses := true, plainKeys := false, apart := false }
def SatCountsSaid : Prop := satCountsRow.holds Try.pinned (OpenSpec.ofChange satCountsSpec)

/-- ITS FALSE NEIGHBOUR: 'it returns false'. Refute it at one input. -/
def satCountsWrong : ChangeSpec := { name := "satCounts", fn := fun _ => fun
  | [d] => { results := [.lit (.bool false)], args := [d] }
  | _ => none }
def SatCountsWrongFalsely : Prop := satCountsRow.holds Try.pinned (OpenSpec.ofChange satCountsWrong)

/-- 'crossbucklaw08.SatSums': WHATEVER THE INPUT: true; the input reads as it did. -/
def satSumsSpec : ChangeSpec := { name := "satSums", fn := fun _ => fun
  | [d] => { results := [.lit (.bool true)], args := [d] }
  | _ => none }
def satSumsRow : OpenClaim := { program := "ytakgghhmecphmaa", sum := "1ff7204da2c1ef2a569084f41a59e8e89ff8dca4e733a9313d4050925a5020bd", func := "crossbuck/crossbucklaw08.SatSums", spec := "satSums", inPlace := ["math/bits.Add64"], recurses := true, plainKeys := false, apart := false }
def SatSumsSaid : Prop := satSumsRow.holds Try.pinned (OpenSpec.ofChange satSumsSpec)

/-- ITS FALSE NEIGHBOUR: 'it returns false'. Refute it at one input. -/
def satSumsWrong : ChangeSpec := { name := "satSums", fn := fun _ => fun
  | [d] => { results := [.lit (.bool false)], args := [d] }
  | _ => none }
def SatSumsWrongFalsely : Prop := satSumsRow.holds Try.pinned (OpenSpec.ofChange satSumsWrong)

/-- 'crossbucklaw08.SatNodes': WHATEVER THE INPUT: true; the input reads as it did. -/
def satNodesSpec : ChangeSpec := { name := "satNodes", fn := fun _ => fun
  | [d1, d2] => { results := [.lit (.bool true)], args := [d1, d2] }
  | _ => none }
def satNodesRow : OpenClaim := { program := "ytakgghhmecphmaa", sum := "1ff7204da2c1ef2a569084f41a59e8e89ff8dca4e733a9313d4050925a5020bd", func := "crossbuck/crossbucklaw08.SatNodes", spec := "satNodes", inPlace := ["math/bits.Add64"], recurses := true, plainKeys := false, apart := false }
def SatNodesSaid : Prop := satNodesRow.holds Try.pinned (OpenSpec.ofChange satNodesSpec)

/-- ITS FALSE NEIGHBOUR: 'it returns false'. Refute it at one input. -/
def satNodesWrong : ChangeSpec := { name := "satNodes", fn := fun _ => fun
  | [d1, d2] => { results := [.lit (.bool false)], args := [d1, d2] }
  | _ => none }
def SatNodesWrongFalsely : Prop := satNodesRow.holds Try.pinned (OpenSpec.ofChange satNodesWrong)

/-- 'crossbucklaw08.SatSteps': WHATEVER THE INPUT: true; the input reads as it did. -/
def satStepsSpec : ChangeSpec := { name := "satSteps", fn := fun _ => fun
  | [d1, d2] => { results := [.lit (.bool true)], args := [d1, d2] }
  | _ => none }
def satStepsRow : OpenClaim := { program := "ytakgghhmecphmaa", sum := "1ff7204da2c1ef2a569084f41a59e8e89ff8dca4e733a9313d4050925a5020bd", func := "crossbuck/crossbucklaw08.SatSteps", spec := "satSteps", inPlace := ["math/bits.Add64"], recurses := true, plainKeys := false, apart := false }
def SatStepsSaid : Prop := satStepsRow.holds Try.pinned (OpenSpec.ofChange satStepsSpec)

/-- ITS FALSE NEIGHBOUR: 'it returns false'. Refute it at one input. -/
def satStepsWrong : ChangeSpec := { name := "satSteps", fn := fun _ => fun
  | [d1, d2] => { results := [.lit (.bool false)], args := [d1, d2] }
  | _ => none }
def SatStepsWrongFalsely : Prop := satStepsRow.holds Try.pinned (OpenSpec.ofChange satStepsWrong)

/-- 'crossbucklaw08.SatEnds': WHATEVER THE INPUT: true; the input reads as it did. -/
def satEndsSpec : ChangeSpec := { name := "satEnds", fn := fun _ => fun
  | [d1, d2] => { results := [.lit (.bool true)], args := [d1, d2] }
  | _ => none }
def satEndsRow : OpenClaim := { program := "ytakgghhmecphmaa", sum := "1ff7204da2c1ef2a569084f41a59e8e89ff8dca4e733a9313d4050925a5020bd", func := "crossbuck/crossbucklaw08.SatEnds", spec := "satEnds", inPlace := ["math/bits.Add64"], recurses := true, plainKeys := false, apart := false }
def SatEndsSaid : Prop := satEndsRow.holds Try.pinned (OpenSpec.ofChange satEndsSpec)

/-- ITS FALSE NEIGHBOUR: 'it returns false'. Refute it at one input. -/
def satEndsWrong : ChangeSpec := { name := "satEnds", fn := fun _ => fun
  | [d1, d2] => { results := [.lit (.bool false)], args := [d1, d2] }
  | _ => none }
def SatEndsWrongFalsely : Prop := satEndsRow.holds Try.pinned (OpenSpec.ofChange satEndsWrong)

/- THE SECOND FORM. 'bulk': how many values and letters a reading holds, each counted each time it is reached (what is shared counts as often as it is met; a slice's spare places count too). A statement '..UptoSaid' is the law's where the arguments, and the package variables that the reading takes, are together of bulk at most 1048576: NARROWER than '..Said'. Prove '..Said' where nothing that the law and all that it calls make is longer than what came in: it says more and counts as full. Else prove '..UptoSaid'. A law counts once. -/
mutual
def uptoBulk {H : Type} : DataW H → Nat
  | .lit (.string bytes) => bytes.length + 1
  | .lit _ => 1
  | .nil => 1
  | .ptr d => uptoBulk d + 1
  | .slice elems spare => uptoBulkAll elems + uptoBulkAll spare + 1
  | .agg parts => uptoBulkAll parts + 1
  | .iface _ d => uptoBulk d + 1
  | .map entries => uptoBulkEntries entries + 1
  | .held _ => 1
def uptoBulkAll {H : Type} : List (DataW H) → Nat
  | [] => 0
  | d :: r => uptoBulk d + uptoBulkAll r
def uptoBulkEntries {H : Type} : List (Lit × DataW H) → Nat
  | [] => 0
  | x :: r => uptoBulkEntry x + uptoBulkEntries r
def uptoBulkEntry {H : Type} : Lit × DataW H → Nat
  | (.string bytes, d) => bytes.length + uptoBulk d + 1
  | (_, d) => uptoBulk d + 1
 end
def uptoSmall : (H : Type) → List (DataW H) → Bool := fun _ ds => decide (uptoBulkAll ds ≤ 1048576)
def OpenSpec.upto (s : _root_.Go.ChangeSpec) : _root_.Go.OpenSpec := { _root_.Go.OpenSpec.ofChange s with cond := some uptoSmall }

/-- 'crossbucklaw07.EncHeaders', WHERE WHAT IT READS IS OF BULK AT MOST 1048576: true; the input reads as it did. -/
def encHeadersUptoRow : OpenClaim := { program := "ytakgghhmecphmaa", sum := "1ff7204da2c1ef2a569084f41a59e8e89ff8dca4e733a9313d4050925a5020bd", func := "crossbuck/crossbucklaw07.EncHeaders", spec := "encHeaders", plainKeys := false, apart := false, narrowed := true }
def EncHeadersUptoSaid : Prop := encHeadersUptoRow.holds Try.pinned (OpenSpec.upto encHeadersSpec)

/-- 'crossbucklaw08.SatCubes', WHERE WHAT IT READS IS OF BULK AT MOST 1048576: true; the input reads as it did. -/
def satCubesUptoRow : OpenClaim := { program := "ytakgghhmecphmaa", sum := "1ff7204da2c1ef2a569084f41a59e8e89ff8dca4e733a9313d4050925a5020bd", func := "crossbuck/crossbucklaw08.SatCubes", spec := "satCubes", inPlace := ["math/bits.Add64"], recurses := true, plainKeys := false, apart := false, narrowed := true }
def SatCubesUptoSaid : Prop := satCubesUptoRow.holds Try.pinned (OpenSpec.upto satCubesSpec)

/-- 'crossbucklaw06.BddFull', WHERE WHAT IT READS IS OF BULK AT MOST 1048576: true; the input reads as it did. -/
def bddFullUptoRow : OpenClaim := { program := "ytakgghhmecphmaa", sum := "1ff7204da2c1ef2a569084f41a59e8e89ff8dca4e733a9313d4050925a5020bd", func := "crossbuck/crossbucklaw06.BddFull", spec := "bddFull", recurses := true, plainKeys := false, apart := false, narrowed := true }
def BddFullUptoSaid : Prop := bddFullUptoRow.holds Try.pinned (OpenSpec.upto bddFullSpec)

/-- 'crossbucklaw06.BddLaws', WHERE WHAT IT READS IS OF BULK AT MOST 1048576: true; the input reads as it did. -/
def bddLawsUptoRow : OpenClaim := { program := "ytakgghhmecphmaa", sum := "1ff7204da2c1ef2a569084f41a59e8e89ff8dca4e733a9313d4050925a5020bd", func := "crossbuck/crossbucklaw06.BddLaws", spec := "bddLaws", unfollowed := true, recurses := true, plainKeys := false, apart := false, narrowed := true }
def BddLawsUptoSaid : Prop := bddLawsUptoRow.holds Try.pinned (OpenSpec.upto bddLawsSpec)

/-- 'crossbucklaw06.BddHeld', WHERE WHAT IT READS IS OF BULK AT MOST 1048576: true; the input reads as it did. -/
def bddHeldUptoRow : OpenClaim := { program := "ytakgghhmecphmaa", sum := "1ff7204da2c1ef2a569084f41a59e8e89ff8dca4e733a9313d4050925a5020bd", func := "crossbuck/crossbucklaw06.BddHeld", spec := "bddHeld", recurses := true, plainKeys := false, apart := false, narrowed := true }
def BddHeldUptoSaid : Prop := bddHeldUptoRow.holds Try.pinned (OpenSpec.upto bddHeldSpec)

/-- 'crossbucklaw06.BddNodes', WHERE WHAT IT READS IS OF BULK AT MOST 1048576: true; the input reads as it did. -/
def bddNodesUptoRow : OpenClaim := { program := "ytakgghhmecphmaa", sum := "1ff7204da2c1ef2a569084f41a59e8e89ff8dca4e733a9313d4050925a5020bd", func := "crossbuck/crossbucklaw06.BddNodes", spec := "bddNodes", recurses := true, plainKeys := false, apart := false, narrowed := true }
def BddNodesUptoSaid : Prop := bddNodesUptoRow.holds Try.pinned (OpenSpec.upto bddNodesSpec)

/-- 'crossbucklaw06.BddSets', WHERE WHAT IT READS IS OF BULK AT MOST 1048576: true; the input reads as it did. -/
def bddSetsUptoRow : OpenClaim := { program := "ytakgghhmecphmaa", sum := "1ff7204da2c1ef2a569084f41a59e8e89ff8dca4e733a9313d4050925a5020bd", func := "crossbuck/crossbucklaw06.BddSets", spec := "bddSets", recurses := true, plainKeys := false, apart := false, narrowed := true }
def BddSetsUptoSaid : Prop := bddSetsUptoRow.holds Try.pinned (OpenSpec.upto bddSetsSpec)

/-- 'crossbucklaw06.BddWrong', WHERE WHAT IT READS IS OF BULK AT MOST 1048576: true; the input reads as it did. -/
def bddWrongUptoRow : OpenClaim := { program := "ytakgghhmecphmaa", sum := "1ff7204da2c1ef2a569084f41a59e8e89ff8dca4e733a9313d4050925a5020bd", func := "crossbuck/crossbucklaw06.BddWrong", spec := "bddWrong", recurses := true, plainKeys := false, apart := false, narrowed := true }
def BddWrongUptoSaid : Prop := bddWrongUptoRow.holds Try.pinned (OpenSpec.upto bddWrongSpec)

/-- 'crossbucklaw07.EncFull', WHERE WHAT IT READS IS OF BULK AT MOST 1048576: true; the input reads as it did. -/
def encFullUptoRow : OpenClaim := { program := "ytakgghhmecphmaa", sum := "1ff7204da2c1ef2a569084f41a59e8e89ff8dca4e733a9313d4050925a5020bd", func := "crossbuck/crossbucklaw07.EncFull", spec := "encFull", unfollowed := true, recurses := true, plainKeys := false, apart := false, narrowed := true }
def EncFullUptoSaid : Prop := encFullUptoRow.holds Try.pinned (OpenSpec.upto encFullSpec)

/-- 'crossbucklaw08.SatCounts', WHERE WHAT IT READS IS OF BULK AT MOST 1048576: true; the input reads as it did. -/
def satCountsUptoRow : OpenClaim := { program := "ytakgghhmecphmaa", sum := "1ff7204da2c1ef2a569084f41a59e8e89ff8dca4e733a9313d4050925a5020bd", func := "crossbuck/crossbucklaw08.SatCounts", spec := "satCounts", inPlace := ["math/bits.Add64"], recurses := true, plainKeys := false, apart := false, narrowed := true }
def SatCountsUptoSaid : Prop := satCountsUptoRow.holds Try.pinned (OpenSpec.upto satCountsSpec)

/-- 'crossbucklaw08.SatSums', WHERE WHAT IT READS IS OF BULK AT MOST 1048576: true; the input reads as it did. -/
def satSumsUptoRow : OpenClaim := { program := "ytakgghhmecphmaa", sum := "1ff7204da2c1ef2a569084f41a59e8e89ff8dca4e733a9313d4050925a5020bd", func := "crossbuck/crossbucklaw08.SatSums", spec := "satSums", inPlace := ["math/bits.Add64"], recurses := true, plainKeys := false, apart := false, narrowed := true }
def SatSumsUptoSaid : Prop := satSumsUptoRow.holds Try.pinned (OpenSpec.upto satSumsSpec)

/-- 'crossbucklaw08.SatNodes', WHERE WHAT IT READS IS OF BULK AT MOST 1048576: true; the input reads as it did. -/
def satNodesUptoRow : OpenClaim := { program := "ytakgghhmecphmaa", sum := "1ff7204da2c1ef2a569084f41a59e8e89ff8dca4e733a9313d4050925a5020bd", func := "crossbuck/crossbucklaw08.SatNodes", spec := "satNodes", inPlace := ["math/bits.Add64"], recurses := true, plainKeys := false, apart := false, narrowed := true }
def SatNodesUptoSaid : Prop := satNodesUptoRow.holds Try.pinned (OpenSpec.upto satNodesSpec)

/-- 'crossbucklaw08.SatSteps', WHERE WHAT IT READS IS OF BULK AT MOST 1048576: true; the input reads as it did. -/
def satStepsUptoRow : OpenClaim := { program := "ytakgghhmecphmaa", sum := "1ff7204da2c1ef2a569084f41a59e8e89ff8dca4e733a9313d4050925a5020bd", func := "crossbuck/crossbucklaw08.SatSteps", spec := "satSteps", inPlace := ["math/bits.Add64"], recurses := true, plainKeys := false, apart := false, narrowed := true }
def SatStepsUptoSaid : Prop := satStepsUptoRow.holds Try.pinned (OpenSpec.upto satStepsSpec)

/-- 'crossbucklaw08.SatEnds', WHERE WHAT IT READS IS OF BULK AT MOST 1048576: true; the input reads as it did. -/
def satEndsUptoRow : OpenClaim := { program := "ytakgghhmecphmaa", sum := "1ff7204da2c1ef2a569084f41a59e8e89ff8dca4e733a9313d4050925a5020bd", func := "crossbuck/crossbucklaw08.SatEnds", spec := "satEnds", inPlace := ["math/bits.Add64"], recurses := true, plainKeys := false, apart := false, narrowed := true }
def SatEndsUptoSaid : Prop := satEndsUptoRow.holds Try.pinned (OpenSpec.upto satEndsSpec)

end Rows
end Go.Proofs.Ytakgghhmecphmaa
