/- The contracts of the kit's shelf at this translation's numbers, as its plain mode writes them (lay-plain.mjs). -/
import Derived.Shelf.SlicesE.Clone
import Derived.Shelf.SlSortCmp.WholeK
import Derived.Shelf.SlSortCmp.NoneTotal
import Derived.Shelf.Small.Strs
import Derived.Test.YtaicecnfodhlcaaProg
namespace Go.Proofs
open Go.Shelf
def Try.cloneCells_ren : Go.Shelf.Ren := ⟨fun | 41 => 54 | n => n, fun | 22 => 44 | 23 => 46 | 4 => 4 | n => n, fun | n => n⟩
theorem Try.cloneCells : Go.Proofs.SlLaysE0.n41 Try.prog Try.cloneCells_ren := {
  mixed := by kernel_rfl
  f41 := ⟨Try.f54.name, by decide, Try.func54.trans (congrArg some (by kernel_rfl))⟩
  t4 := Try.underlying4
  a4 := Try.isAgg4
  z4 := Try.sizeOf4
  v4 := Try.zeroValue4
  t22 := Try.underlying44
  a22 := Try.isAgg44
  z22 := Try.sizeOf44
  v22 := Try.zeroValue44 }
def Try.cloneViews_ren : Go.Shelf.Ren := ⟨fun | 41 => 28 | n => n, fun | 22 => 24 | 23 => 76 | 4 => 4 | n => n, fun | n => n⟩
theorem Try.cloneViews : Go.Proofs.SlLaysE0.n41 Try.prog Try.cloneViews_ren := {
  mixed := by kernel_rfl
  f41 := ⟨Try.f28.name, by decide, Try.func28.trans (congrArg some (by kernel_rfl))⟩
  t4 := Try.underlying4
  a4 := Try.isAgg4
  z4 := Try.sizeOf4
  v4 := Try.zeroValue4
  t22 := Try.underlying24
  a22 := Try.isAgg24
  z22 := Try.sizeOf24
  v22 := Try.zeroValue24 }
def Try.strCompare_ren : Go.Shelf.Ren := ⟨fun | 106 => 76 | 213 => 85 | 265 => 97 | n => n, fun | 9 => 9 | 3 => 3 | n => n, fun | n => n⟩
theorem Try.strCompare : Go.Proofs.Lays.n106 Try.prog Try.strCompare_ren := {
  mixed := by kernel_rfl
  f106 := Try.func76.trans (congrArg some (by kernel_rfl))
  f213 := Try.func85.trans (congrArg some (by kernel_rfl))
  f265 := Try.func97.trans (congrArg some (by kernel_rfl))
  t3 := Try.underlying3
  a3 := Try.isAgg3
  z3 := Try.sizeOf3
  v3 := Try.zeroValue3
  t9 := Try.underlying9
  a9 := Try.isAgg9
  z9 := Try.sizeOf9
  v9 := Try.zeroValue9 }
def Try.sortRows_ren : Go.Shelf.Ren := ⟨fun | 6 => 70 | 15 => 83 | 14 => 82 | 28 => 95 | 29 => 96 | 20 => 87 | 21 => 88 | 22 => 89 | 23 => 90 | 24 => 91 | 25 => 92 | 26 => 93 | 27 => 94 | 46 => 98 | 47 => 99 | 48 => 100 | 49 => 101 | 50 => 102 | 57 => 103 | n => n, fun | 22 => 37 | 24 => 53 | 25 => 144 | 3 => 3 | 39 => 118 | 0 => 0 | 53 => 173 | 55 => 116 | 4 => 4 | 46 => 166 | 45 => 165 | 50 => 170 | 5 => 5 | 9 => 9 | 66 => 175 | 70 => 179 | 76 => 181 | 77 => 182 | n => n, fun | n => n⟩
theorem Try.sortRows : Go.Proofs.SlLaysF0.n6 Try.prog Try.sortRows_ren := {
  mixed := by kernel_rfl
  f6 := ⟨Try.f70.name, by decide, Try.func70.trans (congrArg some (by kernel_rfl))⟩
  f14 := ⟨Try.f82.name, by decide, Try.func82.trans (congrArg some (by kernel_rfl))⟩
  f15 := Try.func83.trans (congrArg some (by kernel_rfl))
  f20 := ⟨Try.f87.name, by decide, Try.func87.trans (congrArg some (by kernel_rfl))⟩
  f21 := ⟨Try.f88.name, by decide, Try.func88.trans (congrArg some (by kernel_rfl))⟩
  f22 := ⟨Try.f89.name, by decide, Try.func89.trans (congrArg some (by kernel_rfl))⟩
  f23 := ⟨Try.f90.name, by decide, Try.func90.trans (congrArg some (by kernel_rfl))⟩
  f24 := ⟨Try.f91.name, by decide, Try.func91.trans (congrArg some (by kernel_rfl))⟩
  f25 := ⟨Try.f92.name, by decide, Try.func92.trans (congrArg some (by kernel_rfl))⟩
  f26 := ⟨Try.f93.name, by decide, Try.func93.trans (congrArg some (by kernel_rfl))⟩
  f27 := ⟨Try.f94.name, by decide, Try.func94.trans (congrArg some (by kernel_rfl))⟩
  f28 := Try.func95.trans (congrArg some (by kernel_rfl))
  f29 := Try.func96.trans (congrArg some (by kernel_rfl))
  f46 := ⟨Try.f98.name, by decide, Try.func98.trans (congrArg some (by kernel_rfl))⟩
  f47 := Try.func99.trans (congrArg some (by kernel_rfl))
  f48 := Try.func100.trans (congrArg some (by kernel_rfl))
  f49 := ⟨Try.f101.name, by decide, Try.func101.trans (congrArg some (by kernel_rfl))⟩
  f50 := ⟨Try.f102.name, by decide, Try.func102.trans (congrArg some (by kernel_rfl))⟩
  f57 := ⟨Try.f103.name, by decide, Try.func103.trans (congrArg some (by kernel_rfl))⟩
  t0 := Try.underlying0
  a0 := Try.isAgg0
  z0 := Try.sizeOf0
  v0 := Try.zeroValue0
  t3 := Try.underlying3
  a3 := Try.isAgg3
  z3 := Try.sizeOf3
  v3 := Try.zeroValue3
  t4 := Try.underlying4
  a4 := Try.isAgg4
  z4 := Try.sizeOf4
  v4 := Try.zeroValue4
  t5 := Try.underlying5
  a5 := Try.isAgg5
  z5 := Try.sizeOf5
  v5 := Try.zeroValue5
  t9 := Try.underlying9
  a9 := Try.isAgg9
  z9 := Try.sizeOf9
  v9 := Try.zeroValue9
  t22 := Try.underlying37
  a22 := Try.isAgg37
  z22 := Try.sizeOf37
  v22 := Try.zeroValue37
  t25 := Try.underlying144
  a25 := Try.isAgg144
  z25 := Try.sizeOf144
  v25 := Try.zeroValue144
  t39 := Try.underlying118
  a39 := Try.isAgg118
  z39 := Try.sizeOf118
  v39 := Try.zeroValue118
  t45 := Try.underlying165
  a45 := Try.isAgg165
  z45 := Try.sizeOf165
  v45 := Try.zeroValue165
  t46 := Try.underlying166
  a46 := Try.isAgg166
  z46 := Try.sizeOf166
  v46 := Try.zeroValue166
  t50 := Try.underlying170
  a50 := Try.isAgg170
  z50 := Try.sizeOf170
  v50 := Try.zeroValue170
  t53 := Try.underlying173
  a53 := Try.isAgg173
  z53 := Try.sizeOf173
  v53 := Try.zeroValue173
  t55 := Try.underlying116
  a55 := Try.isAgg116
  z55 := Try.sizeOf116
  v55 := Try.zeroValue116
  t66 := Try.underlying175
  a66 := Try.isAgg175
  z66 := Try.sizeOf175
  v66 := Try.zeroValue175
  t70 := Try.underlying179
  a70 := Try.isAgg179
  z70 := Try.sizeOf179
  v70 := Try.zeroValue179
  t76 := Try.underlying181
  a76 := Try.isAgg181
  z76 := Try.sizeOf181
  v76 := Try.zeroValue181
  t77 := Try.underlying182
  a77 := Try.isAgg182
  z77 := Try.sizeOf182
  v77 := Try.zeroValue182 }
end Go.Proofs
