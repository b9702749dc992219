/- The contracts of the kit's shelf at this translation's numbers, as its plain mode writes them (lay-plain.mjs). -/
import Derived.Shelf.SlIterI.Collect
import Derived.Shelf.SlIterI.Keys
import Derived.Shelf.SlIterI.Nil
import Derived.Test.YtaicecnfodhlcaaGreatProg
namespace Go.Proofs
open Go.Shelf
def Tryz.keysHolds_ren : Go.Shelf.Ren := ⟨fun | 7 => 73 | 10 => 110 | n => n, fun | 23 => 141 | 26 => 3 | 3 => 4 | 28 => 139 | 0 => 0 | 27 => 138 | 33 => 118 | 4 => 4 | n => n, fun | n => n⟩
theorem Tryz.keysHolds : Go.Proofs.SlLaysZI.n7 Tryz.prog Tryz.keysHolds_ren := {
  mixed := by kernel_rfl
  f7 := ⟨Tryz.f73.name, by decide, Tryz.func73.trans (congrArg some (by kernel_rfl))⟩
  f10 := ⟨Tryz.f110.name, by decide, Tryz.func110.trans (congrArg some (by kernel_rfl))⟩
  t0 := Tryz.underlying0
  a0 := Tryz.isAgg0
  z0 := Tryz.sizeOf0
  v0 := Tryz.zeroValue0
  t4 := Tryz.underlying4
  a4 := Tryz.isAgg4
  z4 := Tryz.sizeOf4
  v4 := Tryz.zeroValue4
  t23 := Tryz.underlying141
  a23 := Tryz.isAgg141
  z23 := Tryz.sizeOf141
  v23 := Tryz.zeroValue141
  t26 := Tryz.underlying3
  a26 := Tryz.isAgg3
  z26 := Tryz.sizeOf3
  v26 := Tryz.zeroValue3
  t27 := Tryz.underlying138
  a27 := Tryz.isAgg138
  z27 := Tryz.sizeOf138
  v27 := Tryz.zeroValue138
  t28 := Tryz.underlying139
  a28 := Tryz.isAgg139
  z28 := Tryz.sizeOf139
  v28 := Tryz.zeroValue139
  t33 := Tryz.underlying118
  a33 := Tryz.isAgg118
  z33 := Tryz.sizeOf118
  v33 := Tryz.zeroValue118 }
def Tryz.collectInts_ren : Go.Shelf.Ren := ⟨fun | 8 => 72 | 11 => 109 | n => n, fun | 26 => 3 | 28 => 139 | 24 => 59 | 0 => 0 | 33 => 118 | 4 => 4 | n => n, fun | n => n⟩
theorem Tryz.collectInts : Go.Proofs.SlLaysZI.n8 Tryz.prog Tryz.collectInts_ren := {
  mixed := by kernel_rfl
  f8 := ⟨Tryz.f72.name, by decide, Tryz.func72.trans (congrArg some (by kernel_rfl))⟩
  f11 := ⟨Tryz.f109.name, by decide, Tryz.func109.trans (congrArg some (by kernel_rfl))⟩
  t0 := Tryz.underlying0
  a0 := Tryz.isAgg0
  z0 := Tryz.sizeOf0
  v0 := Tryz.zeroValue0
  t24 := Tryz.underlying59
  a24 := Tryz.isAgg59
  z24 := Tryz.sizeOf59
  v24 := Tryz.zeroValue59
  t26 := Tryz.underlying3
  a26 := Tryz.isAgg3
  z26 := Tryz.sizeOf3
  v26 := Tryz.zeroValue3
  t28 := Tryz.underlying139
  a28 := Tryz.isAgg139
  z28 := Tryz.sizeOf139
  v28 := Tryz.zeroValue139
  i26 := by kernel_rfl }
end Go.Proofs
