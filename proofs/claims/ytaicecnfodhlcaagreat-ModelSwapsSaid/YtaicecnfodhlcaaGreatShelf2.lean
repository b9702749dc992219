/- The contracts of the kit's shelf at this translation's numbers, as its plain mode writes them (lay-plain.mjs). -/
import Derived.Shelf.SlMaps.Clone
import Derived.Test.YtaicecnfodhlcaaGreatProg
namespace Go.Proofs
open Go.Shelf
def Tryz.cloneMap_ren : Go.Shelf.Ren := ⟨fun | 5 => 87 | 7 => 126 | n => n, fun | 23 => 96 | 25 => 28 | 3 => 91 | 4 => 4 | 20 => 20 | n => n, fun | n => n⟩
theorem Tryz.cloneMap : Go.Proofs.SlLaysW.n5 Tryz.prog Tryz.cloneMap_ren := {
  mixed := by kernel_rfl
  f5 := ⟨Tryz.f87.name, by decide, Tryz.func87.trans (congrArg some (by kernel_rfl))⟩
  f7 := Tryz.func126.trans (congrArg some (by kernel_rfl))
  t4 := Tryz.underlying4
  a4 := Tryz.isAgg4
  z4 := Tryz.sizeOf4
  v4 := Tryz.zeroValue4
  t20 := Tryz.underlying20
  a20 := Tryz.isAgg20
  z20 := Tryz.sizeOf20
  v20 := Tryz.zeroValue20
  t23 := Tryz.underlying96
  a23 := Tryz.isAgg96
  z23 := Tryz.sizeOf96
  v23 := Tryz.zeroValue96 }
def Tryz.cloneSet_ren : Go.Shelf.Ren := ⟨fun | 5 => 88 | 7 => 126 | n => n, fun | 23 => 141 | 25 => 3 | 3 => 4 | 4 => 4 | 20 => 20 | n => n, fun | n => n⟩
theorem Tryz.cloneSet : Go.Proofs.SlLaysW.n5 Tryz.prog Tryz.cloneSet_ren := {
  mixed := by kernel_rfl
  f5 := ⟨Tryz.f88.name, by decide, Tryz.func88.trans (congrArg some (by kernel_rfl))⟩
  f7 := Tryz.func126.trans (congrArg some (by kernel_rfl))
  t4 := Tryz.underlying4
  a4 := Tryz.isAgg4
  z4 := Tryz.sizeOf4
  v4 := Tryz.zeroValue4
  t20 := Tryz.underlying20
  a20 := Tryz.isAgg20
  z20 := Tryz.sizeOf20
  v20 := Tryz.zeroValue20
  t23 := Tryz.underlying141
  a23 := Tryz.isAgg141
  z23 := Tryz.sizeOf141
  v23 := Tryz.zeroValue141 }
end Go.Proofs
