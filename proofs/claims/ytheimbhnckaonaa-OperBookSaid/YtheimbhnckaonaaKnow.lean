/- The law's known example: what is told, in plain lists. -/
import Derived.Test.YtheimbhnckaonaaStepD
set_option linter.unusedVariables false
set_option linter.unusedSimpArgs false
namespace Go.Proofs.Ytheimbhnckaonaa
open Go.RowKit

def kk : ByteArray := ⟨#[107]⟩
def kV : List View := [⟨10, 10, 0⟩, ⟨10, 5, 3⟩]
def kX : List Cell := [⟨0, kk, 10⟩, ⟨1, kk, 5⟩, ⟨1, kk, 10⟩]
def kO0 : Op14 := ⟨kV, [noMark], []⟩
def kO1 : Op14 := ⟨kV, [noMark], kX⟩
def kO2 : Op14 := ⟨kV, [15], kX⟩
def kO3 : Op14 := ⟨kV, [18], [⟨0, kk, 10⟩, ⟨1, kk, 10⟩]⟩

theorem insL_rise {X : List Cell} (h : Rise X) : insL [] X = X := by
  have hr : Rise (insL [] X) := rise_insL List.Pairwise.nil
  refine Rise.perm_eq hr h ?_
  rw [List.perm_ext_iff_of_nodup hr.nodup h.nodup]
  intro a
  rw [mem_insL]
  simp
theorem kX_rise : Rise kX := by
  unfold Rise kX
  decide
theorem k_take : takeX kO0 kk 12 = kX := by decide
theorem k_late : takeL kO0 kk 12 = false := by decide
theorem k_takeE : takeE kO0 kk 12 = 0 := by decide
theorem k_wroteE : wroteE kO0 kX = 0 := by decide
theorem k_wrote : wroteO kO0 kX = kO1 := by
  unfold wroteO
  rw [if_pos k_wroteE, show kO0.live = [] from rfl, insL_rise kX_rise]
  rfl
theorem k_m1 : markX kO1 0 15 = [] := by decide
theorem k_o1 : markO kO1 0 15 = kO2 := by rfl
theorem k_e1 : markE kO1 0 15 = 0 := by decide
theorem k_m2 : markX kO2 0 18 = [⟨1, kk, 5⟩] := by decide
theorem k_o2 : markO kO2 0 18 = kO3 := by rfl
theorem k_e2 : markE kO2 0 18 = 0 := by decide
theorem k_l : leastOf kO3.ms = 18 := by decide
theorem k_ok : kV.all View.ok = true := by decide
end Go.Proofs.Ytheimbhnckaonaa
