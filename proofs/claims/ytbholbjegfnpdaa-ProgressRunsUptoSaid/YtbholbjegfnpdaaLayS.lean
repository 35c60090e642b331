/- Layings of the shelf's contracts at this seat, in plain words: written by wip/tools/lay.py. -/
import Derived.Shelf.SlSortCmp.WholeK
import Derived.Shelf.SlSortCmp.NoneTotal
import Derived.Shelf.SlMaps.Clone
import Derived.Ground.SlsfProg
import Derived.Ground.SlmcProg
import Derived.Test.YtbholbjegfnpdaaRows
namespace Go.Proofs.Ytbholbjegfnpdaa
open Go.Shelf
def laySortS_ren : Go.Shelf.Ren := ⟨fun | 6 => 56 | 15 => 69 | 14 => 68 | 28 => 81 | 29 => 82 | 20 => 73 | 21 => 74 | 22 => 75 | 23 => 76 | 24 => 77 | 25 => 78 | 26 => 79 | 27 => 80 | 46 => 91 | 47 => 92 | 48 => 93 | 49 => 94 | 50 => 95 | 57 => 99 | n => n, fun | 22 => 32 | 24 => 37 | 25 => 99 | 3 => 3 | 39 => 45 | 0 => 0 | 53 => 70 | 55 => 33 | 4 => 4 | 46 => 125 | 45 => 124 | 50 => 129 | 5 => 5 | 9 => 9 | 66 => 138 | 70 => 142 | 76 => 146 | 77 => 55 | n => n, fun | n => n⟩
theorem laySortS : Go.Proofs.SlLaysF0.n6 Try.prog laySortS_ren := {
  mixed := by kernel_rfl
  f6 := ⟨Try.f56.name, by decide, Try.func56.trans (congrArg some (by kernel_rfl))⟩
  f14 := ⟨Try.f68.name, by decide, Try.func68.trans (congrArg some (by kernel_rfl))⟩
  f15 := Try.func69.trans (congrArg some (by kernel_rfl))
  f20 := ⟨Try.f73.name, by decide, Try.func73.trans (congrArg some (by kernel_rfl))⟩
  f21 := ⟨Try.f74.name, by decide, Try.func74.trans (congrArg some (by kernel_rfl))⟩
  f22 := ⟨Try.f75.name, by decide, Try.func75.trans (congrArg some (by kernel_rfl))⟩
  f23 := ⟨Try.f76.name, by decide, Try.func76.trans (congrArg some (by kernel_rfl))⟩
  f24 := ⟨Try.f77.name, by decide, Try.func77.trans (congrArg some (by kernel_rfl))⟩
  f25 := ⟨Try.f78.name, by decide, Try.func78.trans (congrArg some (by kernel_rfl))⟩
  f26 := ⟨Try.f79.name, by decide, Try.func79.trans (congrArg some (by kernel_rfl))⟩
  f27 := ⟨Try.f80.name, by decide, Try.func80.trans (congrArg some (by kernel_rfl))⟩
  f28 := Try.func81.trans (congrArg some (by kernel_rfl))
  f29 := Try.func82.trans (congrArg some (by kernel_rfl))
  f46 := ⟨Try.f91.name, by decide, Try.func91.trans (congrArg some (by kernel_rfl))⟩
  f47 := Try.func92.trans (congrArg some (by kernel_rfl))
  f48 := Try.func93.trans (congrArg some (by kernel_rfl))
  f49 := ⟨Try.f94.name, by decide, Try.func94.trans (congrArg some (by kernel_rfl))⟩
  f50 := ⟨Try.f95.name, by decide, Try.func95.trans (congrArg some (by kernel_rfl))⟩
  f57 := ⟨Try.f99.name, by decide, Try.func99.trans (congrArg some (by kernel_rfl))⟩
  t0 := Try.underlying0
  a0 := Try.isAgg0
  z0 := Try.sizeOf0
  v0 := Try.zeroValue0
  t3 := Try.underlying3
  a3 := Try.isAgg3
  z3 := Try.sizeOf3
  v3 := Try.zeroValue3
  t4 := Try.underlying4
  a4 := Try.isAgg4
  z4 := Try.sizeOf4
  v4 := Try.zeroValue4
  t5 := Try.underlying5
  a5 := Try.isAgg5
  z5 := Try.sizeOf5
  v5 := Try.zeroValue5
  t9 := Try.underlying9
  a9 := Try.isAgg9
  z9 := Try.sizeOf9
  v9 := Try.zeroValue9
  t22 := Try.underlying32
  a22 := Try.isAgg32
  z22 := Try.sizeOf32
  v22 := Try.zeroValue32
  t25 := Try.underlying99
  a25 := Try.isAgg99
  z25 := Try.sizeOf99
  v25 := Try.zeroValue99
  t39 := Try.underlying45
  a39 := Try.isAgg45
  z39 := Try.sizeOf45
  v39 := Try.zeroValue45
  t45 := Try.underlying124
  a45 := Try.isAgg124
  z45 := Try.sizeOf124
  v45 := Try.zeroValue124
  t46 := Try.underlying125
  a46 := Try.isAgg125
  z46 := Try.sizeOf125
  v46 := Try.zeroValue125
  t50 := Try.underlying129
  a50 := Try.isAgg129
  z50 := Try.sizeOf129
  v50 := Try.zeroValue129
  t53 := Try.underlying70
  a53 := Try.isAgg70
  z53 := Try.sizeOf70
  v53 := Try.zeroValue70
  t55 := Try.underlying33
  a55 := Try.isAgg33
  z55 := Try.sizeOf33
  v55 := Try.zeroValue33
  t66 := Try.underlying138
  a66 := Try.isAgg138
  z66 := Try.sizeOf138
  v66 := Try.zeroValue138
  t70 := Try.underlying142
  a70 := Try.isAgg142
  z70 := Try.sizeOf142
  v70 := Try.zeroValue142
  t76 := Try.underlying146
  a76 := Try.isAgg146
  z76 := Try.sizeOf146
  v76 := Try.zeroValue146
  t77 := Try.underlying55
  a77 := Try.isAgg55
  z77 := Try.sizeOf55
  v77 := Try.zeroValue55 }
def layClone_ren : Go.Shelf.Ren := ⟨fun | 5 => 41 | 7 => 54 | n => n, fun | 23 => 76 | 25 => 37 | 3 => 3 | 4 => 4 | 20 => 20 | n => n, fun | n => n⟩
theorem layClone : Go.Proofs.SlLaysW.n5 Try.prog layClone_ren := {
  mixed := by kernel_rfl
  f5 := ⟨Try.f41.name, by decide, Try.func41.trans (congrArg some (by kernel_rfl))⟩
  f7 := Try.func54.trans (congrArg some (by kernel_rfl))
  t4 := Try.underlying4
  a4 := Try.isAgg4
  z4 := Try.sizeOf4
  v4 := Try.zeroValue4
  t20 := Try.underlying20
  a20 := Try.isAgg20
  z20 := Try.sizeOf20
  v20 := Try.zeroValue20
  t23 := Try.underlying76
  a23 := Try.isAgg76
  z23 := Try.sizeOf76
  v23 := Try.zeroValue76 }
end Go.Proofs.Ytbholbjegfnpdaa
