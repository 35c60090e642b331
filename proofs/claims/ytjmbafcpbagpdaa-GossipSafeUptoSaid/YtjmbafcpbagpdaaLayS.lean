/- Layings of the shelf's contracts at this seat, in plain words: written by wip/tools/lay.py. -/
import Derived.Shelf.SlSortCmp.WholeK
import Derived.Shelf.SlSortCmp.NoneTotal
import Derived.Shelf.SlMaps.Clone
import Derived.Ground.SlsfProg
import Derived.Ground.SlmcProg
import Derived.Test.YtjmbafcpbagpdaaRows
namespace Go.Proofs.Ytjmbafcpbagpdaa
open Go.Shelf
def laySortS_ren : Go.Shelf.Ren := ⟨fun | 6 => 52 | 15 => 67 | 14 => 66 | 28 => 81 | 29 => 82 | 20 => 73 | 21 => 74 | 22 => 75 | 23 => 76 | 24 => 77 | 25 => 78 | 26 => 79 | 27 => 80 | 46 => 92 | 47 => 93 | 48 => 94 | 49 => 95 | 50 => 96 | 57 => 100 | n => n, fun | 22 => 34 | 24 => 47 | 25 => 100 | 3 => 3 | 39 => 81 | 0 => 0 | 53 => 60 | 55 => 37 | 4 => 4 | 46 => 134 | 45 => 133 | 50 => 138 | 5 => 5 | 9 => 9 | 66 => 147 | 70 => 151 | 76 => 155 | 77 => 118 | n => n, fun | n => n⟩
theorem laySortS : Go.Proofs.SlLaysF0.n6 Try.prog laySortS_ren := {
  mixed := by kernel_rfl
  f6 := ⟨Try.f52.name, by decide, Try.func52.trans (congrArg some (by kernel_rfl))⟩
  f14 := ⟨Try.f66.name, by decide, Try.func66.trans (congrArg some (by kernel_rfl))⟩
  f15 := Try.func67.trans (congrArg some (by kernel_rfl))
  f20 := ⟨Try.f73.name, by decide, Try.func73.trans (congrArg some (by kernel_rfl))⟩
  f21 := ⟨Try.f74.name, by decide, Try.func74.trans (congrArg some (by kernel_rfl))⟩
  f22 := ⟨Try.f75.name, by decide, Try.func75.trans (congrArg some (by kernel_rfl))⟩
  f23 := ⟨Try.f76.name, by decide, Try.func76.trans (congrArg some (by kernel_rfl))⟩
  f24 := ⟨Try.f77.name, by decide, Try.func77.trans (congrArg some (by kernel_rfl))⟩
  f25 := ⟨Try.f78.name, by decide, Try.func78.trans (congrArg some (by kernel_rfl))⟩
  f26 := ⟨Try.f79.name, by decide, Try.func79.trans (congrArg some (by kernel_rfl))⟩
  f27 := ⟨Try.f80.name, by decide, Try.func80.trans (congrArg some (by kernel_rfl))⟩
  f28 := Try.func81.trans (congrArg some (by kernel_rfl))
  f29 := Try.func82.trans (congrArg some (by kernel_rfl))
  f46 := ⟨Try.f92.name, by decide, Try.func92.trans (congrArg some (by kernel_rfl))⟩
  f47 := Try.func93.trans (congrArg some (by kernel_rfl))
  f48 := Try.func94.trans (congrArg some (by kernel_rfl))
  f49 := ⟨Try.f95.name, by decide, Try.func95.trans (congrArg some (by kernel_rfl))⟩
  f50 := ⟨Try.f96.name, by decide, Try.func96.trans (congrArg some (by kernel_rfl))⟩
  f57 := ⟨Try.f100.name, by decide, Try.func100.trans (congrArg some (by kernel_rfl))⟩
  t0 := Try.underlying0
  a0 := Try.isAgg0
  z0 := Try.sizeOf0
  v0 := Try.zeroValue0
  t3 := Try.underlying3
  a3 := Try.isAgg3
  z3 := Try.sizeOf3
  v3 := Try.zeroValue3
  t4 := Try.underlying4
  a4 := Try.isAgg4
  z4 := Try.sizeOf4
  v4 := Try.zeroValue4
  t5 := Try.underlying5
  a5 := Try.isAgg5
  z5 := Try.sizeOf5
  v5 := Try.zeroValue5
  t9 := Try.underlying9
  a9 := Try.isAgg9
  z9 := Try.sizeOf9
  v9 := Try.zeroValue9
  t22 := Try.underlying34
  a22 := Try.isAgg34
  z22 := Try.sizeOf34
  v22 := Try.zeroValue34
  t25 := Try.underlying100
  a25 := Try.isAgg100
  z25 := Try.sizeOf100
  v25 := Try.zeroValue100
  t39 := Try.underlying81
  a39 := Try.isAgg81
  z39 := Try.sizeOf81
  v39 := Try.zeroValue81
  t45 := Try.underlying133
  a45 := Try.isAgg133
  z45 := Try.sizeOf133
  v45 := Try.zeroValue133
  t46 := Try.underlying134
  a46 := Try.isAgg134
  z46 := Try.sizeOf134
  v46 := Try.zeroValue134
  t50 := Try.underlying138
  a50 := Try.isAgg138
  z50 := Try.sizeOf138
  v50 := Try.zeroValue138
  t53 := Try.underlying60
  a53 := Try.isAgg60
  z53 := Try.sizeOf60
  v53 := Try.zeroValue60
  t55 := Try.underlying37
  a55 := Try.isAgg37
  z55 := Try.sizeOf37
  v55 := Try.zeroValue37
  t66 := Try.underlying147
  a66 := Try.isAgg147
  z66 := Try.sizeOf147
  v66 := Try.zeroValue147
  t70 := Try.underlying151
  a70 := Try.isAgg151
  z70 := Try.sizeOf151
  v70 := Try.zeroValue151
  t76 := Try.underlying155
  a76 := Try.isAgg155
  z76 := Try.sizeOf155
  v76 := Try.zeroValue155
  t77 := Try.underlying118
  a77 := Try.isAgg118
  z77 := Try.sizeOf118
  v77 := Try.zeroValue118 }
def layClone_ren : Go.Shelf.Ren := ⟨fun | 5 => 37 | 7 => 50 | n => n, fun | 23 => 86 | 25 => 47 | 3 => 3 | 4 => 4 | 20 => 20 | n => n, fun | n => n⟩
theorem layClone : Go.Proofs.SlLaysW.n5 Try.prog layClone_ren := {
  mixed := by kernel_rfl
  f5 := ⟨Try.f37.name, by decide, Try.func37.trans (congrArg some (by kernel_rfl))⟩
  f7 := Try.func50.trans (congrArg some (by kernel_rfl))
  t4 := Try.underlying4
  a4 := Try.isAgg4
  z4 := Try.sizeOf4
  v4 := Try.zeroValue4
  t20 := Try.underlying20
  a20 := Try.isAgg20
  z20 := Try.sizeOf20
  v20 := Try.zeroValue20
  t23 := Try.underlying86
  a23 := Try.isAgg86
  z23 := Try.sizeOf86
  v23 := Try.zeroValue86 }
end Go.Proofs.Ytjmbafcpbagpdaa
