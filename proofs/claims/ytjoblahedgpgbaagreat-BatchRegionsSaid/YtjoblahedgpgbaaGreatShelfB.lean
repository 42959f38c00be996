/- The shelf's contracts of slices.SortFunc, BinarySearch, Delete, Insert laid at this seat (numbers of seat C1; laid by the kit's lay-plain). -/
import Derived.Shelf.SlSortCmp.WholeK
import Derived.Shelf.Slices.SearchI
import Derived.Shelf.Slices.Delete
import Derived.Shelf.Slices.Cells
import Derived.Shelf.Slices.Empties
import Derived.Shelf.Spec.SlicesInsert
import Derived.Shelf.Spec.SlicesInsertGrow
import Derived.Ground.SlsfProg
import Derived.Ground.Names2Prog
import Derived.Test.YtjoblahedgpgbaaGreatProg
namespace Go.Proofs.YtjoblahedgpgbaaGreat
set_option linter.unusedVariables false
set_option linter.unusedSimpArgs false
open Go.Shelf
def laySort_ren : Go.Shelf.Ren := ⟨fun | 6 => 245 | 15 => 234 | 14 => 279 | 28 => 272 | 29 => 273 | 20 => 293 | 21 => 294 | 22 => 295 | 23 => 296 | 24 => 297 | 25 => 298 | 26 => 299 | 27 => 300 | 46 => 303 | 47 => 286 | 48 => 287 | 49 => 304 | 50 => 305 | 57 => 306 | n => n, fun | 22 => 183 | 24 => 89 | 25 => 407 | 3 => 3 | 39 => 393 | 0 => 0 | 53 => 28 | 55 => 71 | 4 => 4 | 46 => 428 | 45 => 427 | 50 => 320 | 5 => 5 | 9 => 9 | 66 => 444 | 70 => 374 | 76 => 455 | 77 => 416 | n => n, fun | n => n⟩
theorem laySort : Go.Proofs.SlLaysF0.n6 Tryz.prog laySort_ren := {
  mixed := by kernel_rfl
  f6 := ⟨Tryz.f245.name, by decide, Tryz.func245.trans (congrArg some (by kernel_rfl))⟩
  f14 := ⟨Tryz.f279.name, by decide, Tryz.func279.trans (congrArg some (by kernel_rfl))⟩
  f15 := Tryz.func234.trans (congrArg some (by kernel_rfl))
  f20 := ⟨Tryz.f293.name, by decide, Tryz.func293.trans (congrArg some (by kernel_rfl))⟩
  f21 := ⟨Tryz.f294.name, by decide, Tryz.func294.trans (congrArg some (by kernel_rfl))⟩
  f22 := ⟨Tryz.f295.name, by decide, Tryz.func295.trans (congrArg some (by kernel_rfl))⟩
  f23 := ⟨Tryz.f296.name, by decide, Tryz.func296.trans (congrArg some (by kernel_rfl))⟩
  f24 := ⟨Tryz.f297.name, by decide, Tryz.func297.trans (congrArg some (by kernel_rfl))⟩
  f25 := ⟨Tryz.f298.name, by decide, Tryz.func298.trans (congrArg some (by kernel_rfl))⟩
  f26 := ⟨Tryz.f299.name, by decide, Tryz.func299.trans (congrArg some (by kernel_rfl))⟩
  f27 := ⟨Tryz.f300.name, by decide, Tryz.func300.trans (congrArg some (by kernel_rfl))⟩
  f28 := Tryz.func272.trans (congrArg some (by kernel_rfl))
  f29 := Tryz.func273.trans (congrArg some (by kernel_rfl))
  f46 := ⟨Tryz.f303.name, by decide, Tryz.func303.trans (congrArg some (by kernel_rfl))⟩
  f47 := Tryz.func286.trans (congrArg some (by kernel_rfl))
  f48 := Tryz.func287.trans (congrArg some (by kernel_rfl))
  f49 := ⟨Tryz.f304.name, by decide, Tryz.func304.trans (congrArg some (by kernel_rfl))⟩
  f50 := ⟨Tryz.f305.name, by decide, Tryz.func305.trans (congrArg some (by kernel_rfl))⟩
  f57 := ⟨Tryz.f306.name, by decide, Tryz.func306.trans (congrArg some (by kernel_rfl))⟩
  t0 := Tryz.underlying0
  a0 := Tryz.isAgg0
  z0 := Tryz.sizeOf0
  v0 := Tryz.zeroValue0
  t3 := Tryz.underlying3
  a3 := Tryz.isAgg3
  z3 := Tryz.sizeOf3
  v3 := Tryz.zeroValue3
  t4 := Tryz.underlying4
  a4 := Tryz.isAgg4
  z4 := Tryz.sizeOf4
  v4 := Tryz.zeroValue4
  t5 := Tryz.underlying5
  a5 := Tryz.isAgg5
  z5 := Tryz.sizeOf5
  v5 := Tryz.zeroValue5
  t9 := Tryz.underlying9
  a9 := Tryz.isAgg9
  z9 := Tryz.sizeOf9
  v9 := Tryz.zeroValue9
  t22 := Tryz.underlying183
  a22 := Tryz.isAgg183
  z22 := Tryz.sizeOf183
  v22 := Tryz.zeroValue183
  t25 := Tryz.underlying407
  a25 := Tryz.isAgg407
  z25 := Tryz.sizeOf407
  v25 := Tryz.zeroValue407
  t39 := Tryz.underlying393
  a39 := Tryz.isAgg393
  z39 := Tryz.sizeOf393
  v39 := Tryz.zeroValue393
  t45 := Tryz.underlying427
  a45 := Tryz.isAgg427
  z45 := Tryz.sizeOf427
  v45 := Tryz.zeroValue427
  t46 := Tryz.underlying428
  a46 := Tryz.isAgg428
  z46 := Tryz.sizeOf428
  v46 := Tryz.zeroValue428
  t50 := Tryz.underlying320
  a50 := Tryz.isAgg320
  z50 := Tryz.sizeOf320
  v50 := Tryz.zeroValue320
  t53 := Tryz.underlying28
  a53 := Tryz.isAgg28
  z53 := Tryz.sizeOf28
  v53 := Tryz.zeroValue28
  t55 := Tryz.underlying71
  a55 := Tryz.isAgg71
  z55 := Tryz.sizeOf71
  v55 := Tryz.zeroValue71
  t66 := Tryz.underlying444
  a66 := Tryz.isAgg444
  z66 := Tryz.sizeOf444
  v66 := Tryz.zeroValue444
  t70 := Tryz.underlying374
  a70 := Tryz.isAgg374
  z70 := Tryz.sizeOf374
  v70 := Tryz.zeroValue374
  t76 := Tryz.underlying455
  a76 := Tryz.isAgg455
  z76 := Tryz.sizeOf455
  v76 := Tryz.zeroValue455
  t77 := Tryz.underlying416
  a77 := Tryz.isAgg416
  z77 := Tryz.sizeOf416
  v77 := Tryz.zeroValue416 }
def laySearch_ren : Go.Shelf.Ren := ⟨fun | 25 => 242 | 31 => 269 | 32 => 276 | 37 => 189 | n => n, fun | 22 => 22 | 3 => 3 | 4 => 4 | 40 => 393 | 0 => 0 | n => n, fun | n => n⟩
theorem laySearch : Go.Proofs.Lays2.n25 Tryz.prog laySearch_ren := {
  mixed := by kernel_rfl
  f25 := Tryz.func242.trans (congrArg some (by kernel_rfl))
  f31 := Tryz.func269.trans (congrArg some (by kernel_rfl))
  f32 := Tryz.func276.trans (congrArg some (by kernel_rfl))
  f37 := Tryz.func189.trans (congrArg some (by kernel_rfl))
  t0 := Tryz.underlying0
  a0 := Tryz.isAgg0
  z0 := Tryz.sizeOf0
  v0 := Tryz.zeroValue0
  t3 := Tryz.underlying3
  a3 := Tryz.isAgg3
  z3 := Tryz.sizeOf3
  v3 := Tryz.zeroValue3
  t4 := Tryz.underlying4
  a4 := Tryz.isAgg4
  z4 := Tryz.sizeOf4
  v4 := Tryz.zeroValue4
  t22 := Tryz.underlying22
  a22 := Tryz.isAgg22
  z22 := Tryz.sizeOf22
  v22 := Tryz.zeroValue22
  t40 := Tryz.underlying393
  a40 := Tryz.isAgg393
  z40 := Tryz.sizeOf393
  v40 := Tryz.zeroValue393 }
def layDelete_ren : Go.Shelf.Ren := ⟨fun | 23 => 203 | n => n, fun | 22 => 22 | 3 => 3 | 4 => 4 | 0 => 0 | n => n, fun | n => n⟩
theorem layDelete : Go.Proofs.Lays2.n23 Tryz.prog layDelete_ren := {
  mixed := by kernel_rfl
  f23 := Tryz.func203.trans (congrArg some (by kernel_rfl))
  t0 := Tryz.underlying0
  a0 := Tryz.isAgg0
  z0 := Tryz.sizeOf0
  v0 := Tryz.zeroValue0
  t3 := Tryz.underlying3
  a3 := Tryz.isAgg3
  z3 := Tryz.sizeOf3
  v3 := Tryz.zeroValue3
  t4 := Tryz.underlying4
  a4 := Tryz.isAgg4
  z4 := Tryz.sizeOf4
  v4 := Tryz.zeroValue4
  t22 := Tryz.underlying22
  a22 := Tryz.isAgg22
  z22 := Tryz.sizeOf22
  v22 := Tryz.zeroValue22
  i3 := by kernel_rfl }
def layInsert_ren : Go.Shelf.Ren := ⟨fun | 21 => 244 | 27 => 277 | 28 => 278 | 35 => 292 | 39 => 302 | n => n, fun | 22 => 22 | 3 => 3 | 4 => 4 | 0 => 0 | n => n, fun | n => n⟩
theorem layInsert : Go.Proofs.Lays2.n21 Tryz.prog layInsert_ren := {
  mixed := by kernel_rfl
  f21 := Tryz.func244.trans (congrArg some (by kernel_rfl))
  f27 := Tryz.func277.trans (congrArg some (by kernel_rfl))
  f28 := Tryz.func278.trans (congrArg some (by kernel_rfl))
  f35 := Tryz.func292.trans (congrArg some (by kernel_rfl))
  f39 := Tryz.func302.trans (congrArg some (by kernel_rfl))
  t0 := Tryz.underlying0
  a0 := Tryz.isAgg0
  z0 := Tryz.sizeOf0
  v0 := Tryz.zeroValue0
  t3 := Tryz.underlying3
  a3 := Tryz.isAgg3
  z3 := Tryz.sizeOf3
  v3 := Tryz.zeroValue3
  t4 := Tryz.underlying4
  a4 := Tryz.isAgg4
  z4 := Tryz.sizeOf4
  v4 := Tryz.zeroValue4
  t22 := Tryz.underlying22
  a22 := Tryz.isAgg22
  z22 := Tryz.sizeOf22
  v22 := Tryz.zeroValue22
  i3 := by kernel_rfl }
end Go.Proofs.YtjoblahedgpgbaaGreat
