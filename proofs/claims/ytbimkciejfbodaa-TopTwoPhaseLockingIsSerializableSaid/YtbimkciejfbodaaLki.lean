/- a sort of the shelf, laid at this seat's translation. -/
import Derived.Shelf.SlSortCmp.WholeK
import Derived.Shelf.SlSortCmp.NoneTotal
import Derived.Ground.SlsfProg
import Derived.Test.YtbimkciejfbodaaProg
namespace Go.Proofs
open Go.Shelf
def Try.sortRec_ren : Go.Shelf.Ren := ⟨fun | 6 => 51 | 15 => 66 | 14 => 65 | 28 => 79 | 29 => 80 | 20 => 71 | 21 => 72 | 22 => 73 | 23 => 74 | 24 => 75 | 25 => 76 | 26 => 77 | 27 => 78 | 46 => 91 | 47 => 92 | 48 => 93 | 49 => 94 | 50 => 95 | 57 => 100 | n => n, fun | 22 => 52 | 24 => 33 | 25 => 82 | 3 => 3 | 39 => 92 | 0 => 0 | 53 => 105 | 55 => 57 | 4 => 4 | 46 => 98 | 45 => 97 | 50 => 102 | 5 => 5 | 9 => 9 | 66 => 112 | 70 => 116 | 76 => 120 | 77 => 121 | n => n, fun n => n⟩
theorem Try.sortRec : SlLaysF0.n6 Try.prog Try.sortRec_ren where
  mixed := by kernel_rfl
  f6 := ⟨Try.f51.name, by kernel_rfl, Try.func51.trans (congrArg some (by kernel_rfl))⟩
  f14 := ⟨Try.f65.name, by kernel_rfl, Try.func65.trans (congrArg some (by kernel_rfl))⟩
  f15 := Try.func66.trans (congrArg some (by kernel_rfl))
  f20 := ⟨Try.f71.name, by kernel_rfl, Try.func71.trans (congrArg some (by kernel_rfl))⟩
  f21 := ⟨Try.f72.name, by kernel_rfl, Try.func72.trans (congrArg some (by kernel_rfl))⟩
  f22 := ⟨Try.f73.name, by kernel_rfl, Try.func73.trans (congrArg some (by kernel_rfl))⟩
  f23 := ⟨Try.f74.name, by kernel_rfl, Try.func74.trans (congrArg some (by kernel_rfl))⟩
  f24 := ⟨Try.f75.name, by kernel_rfl, Try.func75.trans (congrArg some (by kernel_rfl))⟩
  f25 := ⟨Try.f76.name, by kernel_rfl, Try.func76.trans (congrArg some (by kernel_rfl))⟩
  f26 := ⟨Try.f77.name, by kernel_rfl, Try.func77.trans (congrArg some (by kernel_rfl))⟩
  f27 := ⟨Try.f78.name, by kernel_rfl, Try.func78.trans (congrArg some (by kernel_rfl))⟩
  f28 := Try.func79.trans (congrArg some (by kernel_rfl))
  f29 := Try.func80.trans (congrArg some (by kernel_rfl))
  f46 := ⟨Try.f91.name, by kernel_rfl, Try.func91.trans (congrArg some (by kernel_rfl))⟩
  f47 := Try.func92.trans (congrArg some (by kernel_rfl))
  f48 := Try.func93.trans (congrArg some (by kernel_rfl))
  f49 := ⟨Try.f94.name, by kernel_rfl, Try.func94.trans (congrArg some (by kernel_rfl))⟩
  f50 := ⟨Try.f95.name, by kernel_rfl, Try.func95.trans (congrArg some (by kernel_rfl))⟩
  f57 := ⟨Try.f100.name, by kernel_rfl, Try.func100.trans (congrArg some (by kernel_rfl))⟩
  t0 := Try.underlying0
  a0 := Try.isAgg0
  z0 := Try.sizeOf0
  v0 := Try.zeroValue0
  t3 := Try.underlying3
  a3 := Try.isAgg3
  z3 := Try.sizeOf3
  v3 := Try.zeroValue3
  t4 := Try.underlying4
  a4 := Try.isAgg4
  z4 := Try.sizeOf4
  v4 := Try.zeroValue4
  t5 := Try.underlying5
  a5 := Try.isAgg5
  z5 := Try.sizeOf5
  v5 := Try.zeroValue5
  t9 := Try.underlying9
  a9 := Try.isAgg9
  z9 := Try.sizeOf9
  v9 := Try.zeroValue9
  t22 := Try.underlying52
  a22 := Try.isAgg52
  z22 := Try.sizeOf52
  v22 := Try.zeroValue52
  t25 := Try.underlying82
  a25 := Try.isAgg82
  z25 := Try.sizeOf82
  v25 := Try.zeroValue82
  t39 := Try.underlying92
  a39 := Try.isAgg92
  z39 := Try.sizeOf92
  v39 := Try.zeroValue92
  t45 := Try.underlying97
  a45 := Try.isAgg97
  z45 := Try.sizeOf97
  v45 := Try.zeroValue97
  t46 := Try.underlying98
  a46 := Try.isAgg98
  z46 := Try.sizeOf98
  v46 := Try.zeroValue98
  t50 := Try.underlying102
  a50 := Try.isAgg102
  z50 := Try.sizeOf102
  v50 := Try.zeroValue102
  t53 := Try.underlying105
  a53 := Try.isAgg105
  z53 := Try.sizeOf105
  v53 := Try.zeroValue105
  t55 := Try.underlying57
  a55 := Try.isAgg57
  z55 := Try.sizeOf57
  v55 := Try.zeroValue57
  t66 := Try.underlying112
  a66 := Try.isAgg112
  z66 := Try.sizeOf112
  v66 := Try.zeroValue112
  t70 := Try.underlying116
  a70 := Try.isAgg116
  z70 := Try.sizeOf116
  v70 := Try.zeroValue116
  t76 := Try.underlying120
  a76 := Try.isAgg120
  z76 := Try.sizeOf120
  v76 := Try.zeroValue120
  t77 := Try.underlying121
  a77 := Try.isAgg121
  z77 := Try.sizeOf121
  v77 := Try.zeroValue121
end Go.Proofs
