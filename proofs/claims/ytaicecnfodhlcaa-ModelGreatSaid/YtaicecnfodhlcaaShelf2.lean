/- The contracts of the kit's shelf at this translation's numbers, as its plain mode writes them (lay-plain.mjs). -/
import Derived.Shelf.SlMaps.Clone
import Derived.Test.YtaicecnfodhlcaaProg
namespace Go.Proofs
open Go.Shelf
def Try.cloneMap_ren : Go.Shelf.Ren := ⟨fun | 5 => 67 | 7 => 81 | n => n, fun | 23 => 83 | 25 => 46 | 3 => 51 | 4 => 4 | 20 => 20 | n => n, fun | n => n⟩
theorem Try.cloneMap : Go.Proofs.SlLaysW.n5 Try.prog Try.cloneMap_ren := {
  mixed := by kernel_rfl
  f5 := ⟨Try.f67.name, by decide, Try.func67.trans (congrArg some (by kernel_rfl))⟩
  f7 := Try.func81.trans (congrArg some (by kernel_rfl))
  t4 := Try.underlying4
  a4 := Try.isAgg4
  z4 := Try.sizeOf4
  v4 := Try.zeroValue4
  t20 := Try.underlying20
  a20 := Try.isAgg20
  z20 := Try.sizeOf20
  v20 := Try.zeroValue20
  t23 := Try.underlying83
  a23 := Try.isAgg83
  z23 := Try.sizeOf83
  v23 := Try.zeroValue83 }
end Go.Proofs
