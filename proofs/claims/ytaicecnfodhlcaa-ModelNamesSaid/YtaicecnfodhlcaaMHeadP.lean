/- The chapter's first example: what the pure machine answers. -/
import Derived.Test.YtaicecnfodhlcaaMAsk
import Derived.Test.YtaicecnfodhlcaaMCheck
import Derived.Test.YtaicecnfodhlcaaMNew
set_option linter.unusedVariables false
set_option linter.unusedSimpArgs false
namespace Go.Proofs.Ytaicecnfodhlcaa
open Go.RowKit Go.Deep

def c0 : Cfg := ⟨[⟨10, 10, 0⟩], 1, 1, 1, 9, 1, 1, 1, 1, 100, 100, 100⟩
theorem c0_right : c0.right = true := by decide
def kA : ByteArray := ⟨#[97]⟩
def r0 : Rw := ⟨⟨0, kA, 0⟩, ⟨1, 5, 5, 5⟩⟩
theorem opr1 (k : ByteArray) : oprK k 1 = 0 := by
  have := oprK_bd k (n := 1) (by decide) (by decide)
  omega
theorem h_open : openCells c0.vs 3 noMark = [⟨0, ByteArray.empty, 0⟩] := by kernel_rfl
theorem h_late : isLate c0.vs 3 noMark = false := by kernel_rfl
theorem h_least : (Mst.new c0).least kA = noMark := by
  unfold Mst.least
  rw [show (Mst.new c0).cfg.op = 1 from rfl, opr1]
  rfl
theorem h_event : (Mst.new c0).event false kA 3 5 false = ((Mst.new c0).taken kA 3 5, 1, 0) := by
  have hd : (Mst.new c0).dueOf (oprK kA (Mst.new c0).cfg.op) = none := rfl
  rw [Mst.event_go _ _ _ _ _ (by decide) (by decide) (by decide) (by decide) hd]
  have h1 : (Mst.new c0).late kA 3 = false := by
    unfold Mst.late
    rw [h_least]
    exact h_late
  have h2 : (Mst.new c0).over kA 3 5 = false := by
    unfold Mst.over Mst.openL
    rw [h_least]
    show ((openCells c0.vs 3 noMark).map (keyed kA)).any _ = false
    rw [h_open]
    rfl
  rw [h1, h2]
  rfl
theorem h_rows : ((Mst.new c0).taken kA 3 5).L = [r0] := by
  show putRows [] ((Mst.new c0).puts kA 3 5) = [r0]
  have h1 : (Mst.new c0).puts kA 3 5 = [r0] := by
    unfold Mst.puts Mst.openL
    rw [h_least]
    show ((openCells c0.vs 3 noMark).map (keyed kA)).map _ = [r0]
    rw [h_open]
    rfl
  rw [h1]
  unfold putRows sortR
  simp
theorem h_pin : answered 7 (((Mst.new c0).taken kA 3 5).pin 1) = (((Mst.new c0).taken kA 3 5).pinned 1, 0, ⟨2, 7, 0, 1, [], 0, 0, 0, 0, 0, 0⟩) := by
  have h0 : ((Mst.new c0).taken kA 3 5).heldN 1 = 0 := rfl
  unfold Mst.pin
  rw [h0, if_neg (by decide), if_neg (by decide)]
  exact answered_ok
theorem h_chk : chkRq ⟨4, 7, 0, [], ⟨0, ByteArray.empty, 0⟩, ⟨0, ByteArray.empty, 0⟩, 0⟩ = 0 := by kernel_rfl
end Go.Proofs.Ytaicecnfodhlcaa
