import Derived.Shelf.SlSortCmp.NoneTotal
import Derived.Test.YtbnipieokpeadaaDoorProg
namespace Go.Proofs.YtbnipieokpeadaaDoor
open Go Go.Proofs Go.Shelf
set_option maxRecDepth 100000

def sortKid_ren : Go.Shelf.Ren := ⟨fun | 6 => 58 | 15 => 68 | 14 => 67 | 28 => 84 | 29 => 85 | 20 => 76 | 21 => 77 | 22 => 78 | 23 => 79 | 24 => 80 | 25 => 81 | 26 => 82 | 27 => 83 | 46 => 91 | 47 => 92 | 48 => 93 | 49 => 94 | 50 => 95 | 57 => 100 | n => n, fun | 22 => 36 | 24 => 39 | 25 => 88 | 3 => 3 | 39 => 96 | 0 => 0 | 53 => 117 | 55 => 119 | 4 => 4 | 46 => 110 | 45 => 109 | 50 => 114 | 5 => 5 | 9 => 9 | 66 => 122 | 70 => 126 | 76 => 132 | 77 => 133 | n => n, fun | n => n⟩
theorem sortKid : Go.Proofs.SlLaysF0.n6 Tryd.prog sortKid_ren where
  mixed := by kernel_rfl
  f6 := ⟨ "slices.SortFunc[[]holt/api.Kid,holt/api.Kid]", by decide, Tryd.func58.trans (congrArg some (by kernel_rfl))⟩
  f14 := ⟨ "slices.pdqsortCmpFunc[holt/api.Kid]", by decide, Tryd.func67.trans (congrArg some (by kernel_rfl))⟩
  f15 := Tryd.func68.trans (congrArg some (by kernel_rfl))
  f20 := ⟨ "slices.insertionSortCmpFunc[holt/api.Kid]", by decide, Tryd.func76.trans (congrArg some (by kernel_rfl))⟩
  f21 := ⟨ "slices.heapSortCmpFunc[holt/api.Kid]", by decide, Tryd.func77.trans (congrArg some (by kernel_rfl))⟩
  f22 := ⟨ "slices.breakPatternsCmpFunc[holt/api.Kid]", by decide, Tryd.func78.trans (congrArg some (by kernel_rfl))⟩
  f23 := ⟨ "slices.choosePivotCmpFunc[holt/api.Kid]", by decide, Tryd.func79.trans (congrArg some (by kernel_rfl))⟩
  f24 := ⟨ "slices.reverseRangeCmpFunc[holt/api.Kid]", by decide, Tryd.func80.trans (congrArg some (by kernel_rfl))⟩
  f25 := ⟨ "slices.partialInsertionSortCmpFunc[holt/api.Kid]", by decide, Tryd.func81.trans (congrArg some (by kernel_rfl))⟩
  f26 := ⟨ "slices.partitionEqualCmpFunc[holt/api.Kid]", by decide, Tryd.func82.trans (congrArg some (by kernel_rfl))⟩
  f27 := ⟨ "slices.partitionCmpFunc[holt/api.Kid]", by decide, Tryd.func83.trans (congrArg some (by kernel_rfl))⟩
  f28 := Tryd.func84.trans (congrArg some (by kernel_rfl))
  f29 := Tryd.func85.trans (congrArg some (by kernel_rfl))
  f46 := ⟨ "slices.siftDownCmpFunc[holt/api.Kid]", by decide, Tryd.func91.trans (congrArg some (by kernel_rfl))⟩
  f47 := Tryd.func92.trans (congrArg some (by kernel_rfl))
  f48 := Tryd.func93.trans (congrArg some (by kernel_rfl))
  f49 := ⟨ "slices.medianAdjacentCmpFunc[holt/api.Kid]", by decide, Tryd.func94.trans (congrArg some (by kernel_rfl))⟩
  f50 := ⟨ "slices.medianCmpFunc[holt/api.Kid]", by decide, Tryd.func95.trans (congrArg some (by kernel_rfl))⟩
  f57 := ⟨ "slices.order2CmpFunc[holt/api.Kid]", by decide, Tryd.func100.trans (congrArg some (by kernel_rfl))⟩
  t0 := Tryd.underlying0
  a0 := Tryd.isAgg0
  z0 := Tryd.sizeOf0
  v0 := Tryd.zeroValue0
  t3 := Tryd.underlying3
  a3 := Tryd.isAgg3
  z3 := Tryd.sizeOf3
  v3 := Tryd.zeroValue3
  t4 := Tryd.underlying4
  a4 := Tryd.isAgg4
  z4 := Tryd.sizeOf4
  v4 := Tryd.zeroValue4
  t5 := Tryd.underlying5
  a5 := Tryd.isAgg5
  z5 := Tryd.sizeOf5
  v5 := Tryd.zeroValue5
  t9 := Tryd.underlying9
  a9 := Tryd.isAgg9
  z9 := Tryd.sizeOf9
  v9 := Tryd.zeroValue9
  t22 := Tryd.underlying36
  a22 := Tryd.isAgg36
  z22 := Tryd.sizeOf36
  v22 := Tryd.zeroValue36
  t25 := Tryd.underlying88
  a25 := Tryd.isAgg88
  z25 := Tryd.sizeOf88
  v25 := Tryd.zeroValue88
  t39 := Tryd.underlying96
  a39 := Tryd.isAgg96
  z39 := Tryd.sizeOf96
  v39 := Tryd.zeroValue96
  t45 := Tryd.underlying109
  a45 := Tryd.isAgg109
  z45 := Tryd.sizeOf109
  v45 := Tryd.zeroValue109
  t46 := Tryd.underlying110
  a46 := Tryd.isAgg110
  z46 := Tryd.sizeOf110
  v46 := Tryd.zeroValue110
  t50 := Tryd.underlying114
  a50 := Tryd.isAgg114
  z50 := Tryd.sizeOf114
  v50 := Tryd.zeroValue114
  t53 := Tryd.underlying117
  a53 := Tryd.isAgg117
  z53 := Tryd.sizeOf117
  v53 := Tryd.zeroValue117
  t55 := Tryd.underlying119
  a55 := Tryd.isAgg119
  z55 := Tryd.sizeOf119
  v55 := Tryd.zeroValue119
  t66 := Tryd.underlying122
  a66 := Tryd.isAgg122
  z66 := Tryd.sizeOf122
  v66 := Tryd.zeroValue122
  t70 := Tryd.underlying126
  a70 := Tryd.isAgg126
  z70 := Tryd.sizeOf126
  v70 := Tryd.zeroValue126
  t76 := Tryd.underlying132
  a76 := Tryd.isAgg132
  z76 := Tryd.sizeOf132
  v76 := Tryd.zeroValue132
  t77 := Tryd.underlying133
  a77 := Tryd.isAgg133
  z77 := Tryd.sizeOf133
  v77 := Tryd.zeroValue133

end Go.Proofs.YtbnipieokpeadaaDoor
