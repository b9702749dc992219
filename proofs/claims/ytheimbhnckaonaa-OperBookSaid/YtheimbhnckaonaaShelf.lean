/- The contracts of the kit's shelf at this translation's numbers, as its plain mode writes them (lay-plain.mjs). -/
import Derived.Shelf.SlicesE.Clone
import Derived.Shelf.SlSortCmp.WholeK
import Derived.Shelf.SlSortCmp.NoneTotal
import Derived.Shelf.Small.Strs
import Derived.Test.YtheimbhnckaonaaProg
namespace Go.Proofs
open Go.Shelf
def Try.cloneCells_ren : Go.Shelf.Ren := ⟨fun | 41 => 79 | n => n, fun | 22 => 35 | 23 => 51 | 4 => 4 | n => n, fun | n => n⟩
theorem Try.cloneCells : Go.Proofs.SlLaysE0.n41 Try.prog Try.cloneCells_ren := {
  mixed := by kernel_rfl
  f41 := ⟨Try.f79.name, by decide, Try.func79.trans (congrArg some (by kernel_rfl))⟩
  t4 := Try.underlying4
  a4 := Try.isAgg4
  z4 := Try.sizeOf4
  v4 := Try.zeroValue4
  t22 := Try.underlying35
  a22 := Try.isAgg35
  z22 := Try.sizeOf35
  v22 := Try.zeroValue35 }
def Try.cloneViews_ren : Go.Shelf.Ren := ⟨fun | 41 => 46 | n => n, fun | 22 => 23 | 23 => 49 | 4 => 4 | n => n, fun | n => n⟩
theorem Try.cloneViews : Go.Proofs.SlLaysE0.n41 Try.prog Try.cloneViews_ren := {
  mixed := by kernel_rfl
  f41 := ⟨Try.f46.name, by decide, Try.func46.trans (congrArg some (by kernel_rfl))⟩
  t4 := Try.underlying4
  a4 := Try.isAgg4
  z4 := Try.sizeOf4
  v4 := Try.zeroValue4
  t22 := Try.underlying23
  a22 := Try.isAgg23
  z22 := Try.sizeOf23
  v22 := Try.zeroValue23 }
def Try.sortCells_ren : Go.Shelf.Ren := ⟨fun | 6 => 54 | 15 => 84 | 14 => 83 | 28 => 103 | 29 => 104 | 20 => 95 | 21 => 96 | 22 => 97 | 23 => 98 | 24 => 99 | 25 => 100 | 26 => 101 | 27 => 102 | 46 => 108 | 47 => 109 | 48 => 110 | 49 => 111 | 50 => 112 | 57 => 113 | n => n, fun | 22 => 35 | 24 => 51 | 25 => 64 | 3 => 3 | 39 => 134 | 0 => 0 | 53 => 162 | 55 => 110 | 4 => 4 | 46 => 155 | 45 => 154 | 50 => 159 | 5 => 5 | 9 => 9 | 66 => 167 | 70 => 171 | 76 => 176 | 77 => 177 | n => n, fun | n => n⟩
theorem Try.sortCells : Go.Proofs.SlLaysF0.n6 Try.prog Try.sortCells_ren := {
  mixed := by kernel_rfl
  f6 := ⟨Try.f54.name, by decide, Try.func54.trans (congrArg some (by kernel_rfl))⟩
  f14 := ⟨Try.f83.name, by decide, Try.func83.trans (congrArg some (by kernel_rfl))⟩
  f15 := Try.func84.trans (congrArg some (by kernel_rfl))
  f20 := ⟨Try.f95.name, by decide, Try.func95.trans (congrArg some (by kernel_rfl))⟩
  f21 := ⟨Try.f96.name, by decide, Try.func96.trans (congrArg some (by kernel_rfl))⟩
  f22 := ⟨Try.f97.name, by decide, Try.func97.trans (congrArg some (by kernel_rfl))⟩
  f23 := ⟨Try.f98.name, by decide, Try.func98.trans (congrArg some (by kernel_rfl))⟩
  f24 := ⟨Try.f99.name, by decide, Try.func99.trans (congrArg some (by kernel_rfl))⟩
  f25 := ⟨Try.f100.name, by decide, Try.func100.trans (congrArg some (by kernel_rfl))⟩
  f26 := ⟨Try.f101.name, by decide, Try.func101.trans (congrArg some (by kernel_rfl))⟩
  f27 := ⟨Try.f102.name, by decide, Try.func102.trans (congrArg some (by kernel_rfl))⟩
  f28 := Try.func103.trans (congrArg some (by kernel_rfl))
  f29 := Try.func104.trans (congrArg some (by kernel_rfl))
  f46 := ⟨Try.f108.name, by decide, Try.func108.trans (congrArg some (by kernel_rfl))⟩
  f47 := Try.func109.trans (congrArg some (by kernel_rfl))
  f48 := Try.func110.trans (congrArg some (by kernel_rfl))
  f49 := ⟨Try.f111.name, by decide, Try.func111.trans (congrArg some (by kernel_rfl))⟩
  f50 := ⟨Try.f112.name, by decide, Try.func112.trans (congrArg some (by kernel_rfl))⟩
  f57 := ⟨Try.f113.name, by decide, Try.func113.trans (congrArg some (by kernel_rfl))⟩
  t0 := Try.underlying0
  a0 := Try.isAgg0
  z0 := Try.sizeOf0
  v0 := Try.zeroValue0
  t3 := Try.underlying3
  a3 := Try.isAgg3
  z3 := Try.sizeOf3
  v3 := Try.zeroValue3
  t4 := Try.underlying4
  a4 := Try.isAgg4
  z4 := Try.sizeOf4
  v4 := Try.zeroValue4
  t5 := Try.underlying5
  a5 := Try.isAgg5
  z5 := Try.sizeOf5
  v5 := Try.zeroValue5
  t9 := Try.underlying9
  a9 := Try.isAgg9
  z9 := Try.sizeOf9
  v9 := Try.zeroValue9
  t22 := Try.underlying35
  a22 := Try.isAgg35
  z22 := Try.sizeOf35
  v22 := Try.zeroValue35
  t25 := Try.underlying64
  a25 := Try.isAgg64
  z25 := Try.sizeOf64
  v25 := Try.zeroValue64
  t39 := Try.underlying134
  a39 := Try.isAgg134
  z39 := Try.sizeOf134
  v39 := Try.zeroValue134
  t45 := Try.underlying154
  a45 := Try.isAgg154
  z45 := Try.sizeOf154
  v45 := Try.zeroValue154
  t46 := Try.underlying155
  a46 := Try.isAgg155
  z46 := Try.sizeOf155
  v46 := Try.zeroValue155
  t50 := Try.underlying159
  a50 := Try.isAgg159
  z50 := Try.sizeOf159
  v50 := Try.zeroValue159
  t53 := Try.underlying162
  a53 := Try.isAgg162
  z53 := Try.sizeOf162
  v53 := Try.zeroValue162
  t55 := Try.underlying110
  a55 := Try.isAgg110
  z55 := Try.sizeOf110
  v55 := Try.zeroValue110
  t66 := Try.underlying167
  a66 := Try.isAgg167
  z66 := Try.sizeOf167
  v66 := Try.zeroValue167
  t70 := Try.underlying171
  a70 := Try.isAgg171
  z70 := Try.sizeOf171
  v70 := Try.zeroValue171
  t76 := Try.underlying176
  a76 := Try.isAgg176
  z76 := Try.sizeOf176
  v76 := Try.zeroValue176
  t77 := Try.underlying177
  a77 := Try.isAgg177
  z77 := Try.sizeOf177
  v77 := Try.zeroValue177 }
def Try.strCompare_ren : Go.Shelf.Ren := ⟨fun | 106 => 61 | 213 => 87 | 265 => 105 | n => n, fun | 9 => 9 | 3 => 3 | n => n, fun | n => n⟩
theorem Try.strCompare : Go.Proofs.Lays.n106 Try.prog Try.strCompare_ren := {
  mixed := by kernel_rfl
  f106 := Try.func61.trans (congrArg some (by kernel_rfl))
  f213 := Try.func87.trans (congrArg some (by kernel_rfl))
  f265 := Try.func105.trans (congrArg some (by kernel_rfl))
  t3 := Try.underlying3
  a3 := Try.isAgg3
  z3 := Try.sizeOf3
  v3 := Try.zeroValue3
  t9 := Try.underlying9
  a9 := Try.isAgg9
  z9 := Try.sizeOf9
  v9 := Try.zeroValue9 }
end Go.Proofs
