/- Layings of the shelf's contracts at this seat, in plain words: written by wip/tools/lay.py. -/
import Derived.Shelf.SlSortCmp.WholeK
import Derived.Shelf.SlSortCmp.NoneTotal
import Derived.Shelf.SlMaps.Clone
import Derived.Ground.SlsfProg
import Derived.Ground.SlmcProg
import Derived.Test.YtjmbafcpbagpdaaGreatRows
namespace Go.Proofs.YtjmbafcpbagpdaaGreat
open Go.Shelf
def laySortS_ren : Go.Shelf.Ren := ⟨fun | 6 => 64 | 15 => 79 | 14 => 78 | 28 => 93 | 29 => 94 | 20 => 85 | 21 => 86 | 22 => 87 | 23 => 88 | 24 => 89 | 25 => 90 | 26 => 91 | 27 => 92 | 46 => 96 | 47 => 97 | 48 => 98 | 49 => 99 | 50 => 100 | 57 => 109 | n => n, fun | 22 => 29 | 24 => 59 | 25 => 112 | 3 => 3 | 39 => 136 | 0 => 0 | 53 => 71 | 55 => 150 | 4 => 4 | 46 => 142 | 45 => 141 | 50 => 146 | 5 => 5 | 9 => 9 | 66 => 152 | 70 => 156 | 76 => 163 | 77 => 87 | n => n, fun | n => n⟩
theorem laySortS : Go.Proofs.SlLaysF0.n6 Tryz.prog laySortS_ren := {
  mixed := by kernel_rfl
  f6 := ⟨Tryz.f64.name, by decide, Tryz.func64.trans (congrArg some (by kernel_rfl))⟩
  f14 := ⟨Tryz.f78.name, by decide, Tryz.func78.trans (congrArg some (by kernel_rfl))⟩
  f15 := Tryz.func79.trans (congrArg some (by kernel_rfl))
  f20 := ⟨Tryz.f85.name, by decide, Tryz.func85.trans (congrArg some (by kernel_rfl))⟩
  f21 := ⟨Tryz.f86.name, by decide, Tryz.func86.trans (congrArg some (by kernel_rfl))⟩
  f22 := ⟨Tryz.f87.name, by decide, Tryz.func87.trans (congrArg some (by kernel_rfl))⟩
  f23 := ⟨Tryz.f88.name, by decide, Tryz.func88.trans (congrArg some (by kernel_rfl))⟩
  f24 := ⟨Tryz.f89.name, by decide, Tryz.func89.trans (congrArg some (by kernel_rfl))⟩
  f25 := ⟨Tryz.f90.name, by decide, Tryz.func90.trans (congrArg some (by kernel_rfl))⟩
  f26 := ⟨Tryz.f91.name, by decide, Tryz.func91.trans (congrArg some (by kernel_rfl))⟩
  f27 := ⟨Tryz.f92.name, by decide, Tryz.func92.trans (congrArg some (by kernel_rfl))⟩
  f28 := Tryz.func93.trans (congrArg some (by kernel_rfl))
  f29 := Tryz.func94.trans (congrArg some (by kernel_rfl))
  f46 := ⟨Tryz.f96.name, by decide, Tryz.func96.trans (congrArg some (by kernel_rfl))⟩
  f47 := Tryz.func97.trans (congrArg some (by kernel_rfl))
  f48 := Tryz.func98.trans (congrArg some (by kernel_rfl))
  f49 := ⟨Tryz.f99.name, by decide, Tryz.func99.trans (congrArg some (by kernel_rfl))⟩
  f50 := ⟨Tryz.f100.name, by decide, Tryz.func100.trans (congrArg some (by kernel_rfl))⟩
  f57 := ⟨Tryz.f109.name, by decide, Tryz.func109.trans (congrArg some (by kernel_rfl))⟩
  t0 := Tryz.underlying0
  a0 := Tryz.isAgg0
  z0 := Tryz.sizeOf0
  v0 := Tryz.zeroValue0
  t3 := Tryz.underlying3
  a3 := Tryz.isAgg3
  z3 := Tryz.sizeOf3
  v3 := Tryz.zeroValue3
  t4 := Tryz.underlying4
  a4 := Tryz.isAgg4
  z4 := Tryz.sizeOf4
  v4 := Tryz.zeroValue4
  t5 := Tryz.underlying5
  a5 := Tryz.isAgg5
  z5 := Tryz.sizeOf5
  v5 := Tryz.zeroValue5
  t9 := Tryz.underlying9
  a9 := Tryz.isAgg9
  z9 := Tryz.sizeOf9
  v9 := Tryz.zeroValue9
  t22 := Tryz.underlying29
  a22 := Tryz.isAgg29
  z22 := Tryz.sizeOf29
  v22 := Tryz.zeroValue29
  t25 := Tryz.underlying112
  a25 := Tryz.isAgg112
  z25 := Tryz.sizeOf112
  v25 := Tryz.zeroValue112
  t39 := Tryz.underlying136
  a39 := Tryz.isAgg136
  z39 := Tryz.sizeOf136
  v39 := Tryz.zeroValue136
  t45 := Tryz.underlying141
  a45 := Tryz.isAgg141
  z45 := Tryz.sizeOf141
  v45 := Tryz.zeroValue141
  t46 := Tryz.underlying142
  a46 := Tryz.isAgg142
  z46 := Tryz.sizeOf142
  v46 := Tryz.zeroValue142
  t50 := Tryz.underlying146
  a50 := Tryz.isAgg146
  z50 := Tryz.sizeOf146
  v50 := Tryz.zeroValue146
  t53 := Tryz.underlying71
  a53 := Tryz.isAgg71
  z53 := Tryz.sizeOf71
  v53 := Tryz.zeroValue71
  t55 := Tryz.underlying150
  a55 := Tryz.isAgg150
  z55 := Tryz.sizeOf150
  v55 := Tryz.zeroValue150
  t66 := Tryz.underlying152
  a66 := Tryz.isAgg152
  z66 := Tryz.sizeOf152
  v66 := Tryz.zeroValue152
  t70 := Tryz.underlying156
  a70 := Tryz.isAgg156
  z70 := Tryz.sizeOf156
  v70 := Tryz.zeroValue156
  t76 := Tryz.underlying163
  a76 := Tryz.isAgg163
  z76 := Tryz.sizeOf163
  v76 := Tryz.zeroValue163
  t77 := Tryz.underlying87
  a77 := Tryz.isAgg87
  z77 := Tryz.sizeOf87
  v77 := Tryz.zeroValue87 }
def layClone_ren : Go.Shelf.Ren := ⟨fun | 5 => 44 | 7 => 62 | n => n, fun | 23 => 103 | 25 => 59 | 3 => 3 | 4 => 4 | 20 => 20 | n => n, fun | n => n⟩
theorem layClone : Go.Proofs.SlLaysW.n5 Tryz.prog layClone_ren := {
  mixed := by kernel_rfl
  f5 := ⟨Tryz.f44.name, by decide, Tryz.func44.trans (congrArg some (by kernel_rfl))⟩
  f7 := Tryz.func62.trans (congrArg some (by kernel_rfl))
  t4 := Tryz.underlying4
  a4 := Tryz.isAgg4
  z4 := Tryz.sizeOf4
  v4 := Tryz.zeroValue4
  t20 := Tryz.underlying20
  a20 := Tryz.isAgg20
  z20 := Tryz.sizeOf20
  v20 := Tryz.zeroValue20
  t23 := Tryz.underlying103
  a23 := Tryz.isAgg103
  z23 := Tryz.sizeOf103
  v23 := Tryz.zeroValue103 }
end Go.Proofs.YtjmbafcpbagpdaaGreat
