/- The shelf's contracts of slices.SortFunc, BinarySearch, Delete, Insert laid at this seat (numbers of seat B; laid by the kit's lay-plain). -/
import Derived.Shelf.SlSortCmp.WholeK
import Derived.Shelf.Slices.SearchI
import Derived.Shelf.Slices.Delete
import Derived.Shelf.Slices.Cells
import Derived.Shelf.Slices.Empties
import Derived.Shelf.Spec.SlicesInsert
import Derived.Shelf.Spec.SlicesInsertGrow
import Derived.Ground.SlsfProg
import Derived.Ground.Names2Prog
import Derived.Test.YtiedhjmnjpkcoaaProg
namespace Go.Proofs.Ytiedhjmnjpkcoaa
set_option linter.unusedVariables false
set_option linter.unusedSimpArgs false
open Go.Shelf
def laySort_ren : Go.Shelf.Ren := ⟨fun | 6 => 80 | 15 => 103 | 14 => 102 | 28 => 120 | 29 => 121 | 20 => 112 | 21 => 113 | 22 => 114 | 23 => 115 | 24 => 116 | 25 => 117 | 26 => 118 | 27 => 119 | 46 => 124 | 47 => 125 | 48 => 126 | 49 => 127 | 50 => 128 | 57 => 130 | n => n, fun | 22 => 33 | 24 => 26 | 25 => 27 | 3 => 3 | 39 => 178 | 0 => 0 | 53 => 22 | 55 => 167 | 4 => 4 | 46 => 191 | 45 => 190 | 50 => 161 | 5 => 5 | 9 => 9 | 66 => 199 | 70 => 203 | 76 => 206 | 77 => 207 | n => n, fun | n => n⟩
theorem laySort : Go.Proofs.SlLaysF0.n6 Try.prog laySort_ren := {
  mixed := by kernel_rfl
  f6 := ⟨Try.f80.name, by decide, Try.func80.trans (congrArg some (by kernel_rfl))⟩
  f14 := ⟨Try.f102.name, by decide, Try.func102.trans (congrArg some (by kernel_rfl))⟩
  f15 := Try.func103.trans (congrArg some (by kernel_rfl))
  f20 := ⟨Try.f112.name, by decide, Try.func112.trans (congrArg some (by kernel_rfl))⟩
  f21 := ⟨Try.f113.name, by decide, Try.func113.trans (congrArg some (by kernel_rfl))⟩
  f22 := ⟨Try.f114.name, by decide, Try.func114.trans (congrArg some (by kernel_rfl))⟩
  f23 := ⟨Try.f115.name, by decide, Try.func115.trans (congrArg some (by kernel_rfl))⟩
  f24 := ⟨Try.f116.name, by decide, Try.func116.trans (congrArg some (by kernel_rfl))⟩
  f25 := ⟨Try.f117.name, by decide, Try.func117.trans (congrArg some (by kernel_rfl))⟩
  f26 := ⟨Try.f118.name, by decide, Try.func118.trans (congrArg some (by kernel_rfl))⟩
  f27 := ⟨Try.f119.name, by decide, Try.func119.trans (congrArg some (by kernel_rfl))⟩
  f28 := Try.func120.trans (congrArg some (by kernel_rfl))
  f29 := Try.func121.trans (congrArg some (by kernel_rfl))
  f46 := ⟨Try.f124.name, by decide, Try.func124.trans (congrArg some (by kernel_rfl))⟩
  f47 := Try.func125.trans (congrArg some (by kernel_rfl))
  f48 := Try.func126.trans (congrArg some (by kernel_rfl))
  f49 := ⟨Try.f127.name, by decide, Try.func127.trans (congrArg some (by kernel_rfl))⟩
  f50 := ⟨Try.f128.name, by decide, Try.func128.trans (congrArg some (by kernel_rfl))⟩
  f57 := ⟨Try.f130.name, by decide, Try.func130.trans (congrArg some (by kernel_rfl))⟩
  t0 := Try.underlying0
  a0 := Try.isAgg0
  z0 := Try.sizeOf0
  v0 := Try.zeroValue0
  t3 := Try.underlying3
  a3 := Try.isAgg3
  z3 := Try.sizeOf3
  v3 := Try.zeroValue3
  t4 := Try.underlying4
  a4 := Try.isAgg4
  z4 := Try.sizeOf4
  v4 := Try.zeroValue4
  t5 := Try.underlying5
  a5 := Try.isAgg5
  z5 := Try.sizeOf5
  v5 := Try.zeroValue5
  t9 := Try.underlying9
  a9 := Try.isAgg9
  z9 := Try.sizeOf9
  v9 := Try.zeroValue9
  t22 := Try.underlying33
  a22 := Try.isAgg33
  z22 := Try.sizeOf33
  v22 := Try.zeroValue33
  t25 := Try.underlying27
  a25 := Try.isAgg27
  z25 := Try.sizeOf27
  v25 := Try.zeroValue27
  t39 := Try.underlying178
  a39 := Try.isAgg178
  z39 := Try.sizeOf178
  v39 := Try.zeroValue178
  t45 := Try.underlying190
  a45 := Try.isAgg190
  z45 := Try.sizeOf190
  v45 := Try.zeroValue190
  t46 := Try.underlying191
  a46 := Try.isAgg191
  z46 := Try.sizeOf191
  v46 := Try.zeroValue191
  t50 := Try.underlying161
  a50 := Try.isAgg161
  z50 := Try.sizeOf161
  v50 := Try.zeroValue161
  t53 := Try.underlying22
  a53 := Try.isAgg22
  z53 := Try.sizeOf22
  v53 := Try.zeroValue22
  t55 := Try.underlying167
  a55 := Try.isAgg167
  z55 := Try.sizeOf167
  v55 := Try.zeroValue167
  t66 := Try.underlying199
  a66 := Try.isAgg199
  z66 := Try.sizeOf199
  v66 := Try.zeroValue199
  t70 := Try.underlying203
  a70 := Try.isAgg203
  z70 := Try.sizeOf203
  v70 := Try.zeroValue203
  t76 := Try.underlying206
  a76 := Try.isAgg206
  z76 := Try.sizeOf206
  v76 := Try.zeroValue206
  t77 := Try.underlying207
  a77 := Try.isAgg207
  z77 := Try.sizeOf207
  v77 := Try.zeroValue207 }
def laySearch_ren : Go.Shelf.Ren := ⟨fun | 25 => 86 | 31 => 104 | 32 => 105 | 37 => 79 | n => n, fun | 22 => 60 | 3 => 3 | 4 => 4 | 40 => 178 | 0 => 0 | n => n, fun | n => n⟩
theorem laySearch : Go.Proofs.Lays2.n25 Try.prog laySearch_ren := {
  mixed := by kernel_rfl
  f25 := Try.func86.trans (congrArg some (by kernel_rfl))
  f31 := Try.func104.trans (congrArg some (by kernel_rfl))
  f32 := Try.func105.trans (congrArg some (by kernel_rfl))
  f37 := Try.func79.trans (congrArg some (by kernel_rfl))
  t0 := Try.underlying0
  a0 := Try.isAgg0
  z0 := Try.sizeOf0
  v0 := Try.zeroValue0
  t3 := Try.underlying3
  a3 := Try.isAgg3
  z3 := Try.sizeOf3
  v3 := Try.zeroValue3
  t4 := Try.underlying4
  a4 := Try.isAgg4
  z4 := Try.sizeOf4
  v4 := Try.zeroValue4
  t22 := Try.underlying60
  a22 := Try.isAgg60
  z22 := Try.sizeOf60
  v22 := Try.zeroValue60
  t40 := Try.underlying178
  a40 := Try.isAgg178
  z40 := Try.sizeOf178
  v40 := Try.zeroValue178 }
def layDelete_ren : Go.Shelf.Ren := ⟨fun | 23 => 87 | n => n, fun | 22 => 60 | 3 => 3 | 4 => 4 | 0 => 0 | n => n, fun | n => n⟩
theorem layDelete : Go.Proofs.Lays2.n23 Try.prog layDelete_ren := {
  mixed := by kernel_rfl
  f23 := Try.func87.trans (congrArg some (by kernel_rfl))
  t0 := Try.underlying0
  a0 := Try.isAgg0
  z0 := Try.sizeOf0
  v0 := Try.zeroValue0
  t3 := Try.underlying3
  a3 := Try.isAgg3
  z3 := Try.sizeOf3
  v3 := Try.zeroValue3
  t4 := Try.underlying4
  a4 := Try.isAgg4
  z4 := Try.sizeOf4
  v4 := Try.zeroValue4
  t22 := Try.underlying60
  a22 := Try.isAgg60
  z22 := Try.sizeOf60
  v22 := Try.zeroValue60
  i3 := by kernel_rfl }
def layInsert_ren : Go.Shelf.Ren := ⟨fun | 21 => 90 | 27 => 106 | 28 => 107 | 35 => 122 | 39 => 129 | n => n, fun | 22 => 60 | 3 => 3 | 4 => 4 | 0 => 0 | n => n, fun | n => n⟩
theorem layInsert : Go.Proofs.Lays2.n21 Try.prog layInsert_ren := {
  mixed := by kernel_rfl
  f21 := Try.func90.trans (congrArg some (by kernel_rfl))
  f27 := Try.func106.trans (congrArg some (by kernel_rfl))
  f28 := Try.func107.trans (congrArg some (by kernel_rfl))
  f35 := Try.func122.trans (congrArg some (by kernel_rfl))
  f39 := Try.func129.trans (congrArg some (by kernel_rfl))
  t0 := Try.underlying0
  a0 := Try.isAgg0
  z0 := Try.sizeOf0
  v0 := Try.zeroValue0
  t3 := Try.underlying3
  a3 := Try.isAgg3
  z3 := Try.sizeOf3
  v3 := Try.zeroValue3
  t4 := Try.underlying4
  a4 := Try.isAgg4
  z4 := Try.sizeOf4
  v4 := Try.zeroValue4
  t22 := Try.underlying60
  a22 := Try.isAgg60
  z22 := Try.sizeOf60
  v22 := Try.zeroValue60
  i3 := by kernel_rfl }
end Go.Proofs.Ytiedhjmnjpkcoaa
