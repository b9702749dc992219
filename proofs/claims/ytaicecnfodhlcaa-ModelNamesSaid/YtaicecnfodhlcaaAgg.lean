/- The contracts of agg's and the document's sums. -/
import Derived.Test.YtaicecnfodhlcaaPane
set_option linter.unusedVariables false
set_option linter.unusedSimpArgs false
namespace Go.Proofs.Ytaicecnfodhlcaa
open Go.RowKit

/-- Does a sum fit? -/
def fits (a b : Int) : Bool := decide (-9223372036854775808 ≤ a + b ∧ a + b ≤ 9223372036854775807)
def is64 (a : Int) : Prop := -9223372036854775808 ≤ a ∧ a ≤ 9223372036854775807

set_option maxHeartbeats 1000000 in
theorem aggAdd_ok (a b : Int) (w : World) (ha : is64 a) (hb : is64 b) (hf : fits a b = true) : Calls Try.prog 78 #[.int .i64 a, .int .i64 b] w fun e w' => e = .returned (.tuple #[.int .i64 (a + b), .nilIface]) ∧ w' = w := by
  obtain ⟨a1, a2⟩ := ha
  obtain ⟨b1, b2⟩ := hb
  simp only [fits, decide_eq_true_eq] at hf
  by_cases h0 : 0 < b
  · have h1 : a < a + b := by omega
    go_enter Try.func78, Try.ntmps78
    go_wp2_with fail
    go_ret2
    exact ⟨rfl, rfl⟩
  · have h1 : ¬ a < a + b := by omega
    go_enter Try.func78, Try.ntmps78
    go_wp2_with fail
    go_ret2
    exact ⟨rfl, rfl⟩

/-- An *agg.Overflow lies in block g. -/
def IsOver (w : World) (g : Nat) (a b : Int) : Prop := w.heap[g]? = some (.cells #[.int .u8 43, .int .i64 a, .int .i64 b] 163 (0, 0))

set_option maxHeartbeats 1000000 in
theorem aggAdd_bad (a b : Int) (w : World) (ha : is64 a) (hb : is64 b) (hf : ¬ fits a b = true) : Calls Try.prog 78 #[.int .i64 a, .int .i64 b] w fun e w' => e = .returned (.tuple #[.int .i64 0, .iface 161 (.pointer (some ⟨w.heap.size, 0, none⟩))]) ∧ IsOver w' w.heap.size a b ∧ Below w.heap.size w w' := by
  obtain ⟨a1, a2⟩ := ha
  obtain ⟨b1, b2⟩ := hb
  simp only [fits, decide_eq_true_eq] at hf
  have hb0 : Below w.heap.size w (w.alloc (.cells #[.int .u8 43, .int .i64 a, .int .i64 b] 163)) := (Below.refl _ _).alloc (Nat.le_refl _) _
  by_cases h0 : 0 < b
  · have hs : wrap64 (a + b) = a + b - 18446744073709551616 := by unfold wrap64; omega
    have h1 : ¬ a < a + b - 18446744073709551616 := by omega
    go_enter Try.func78, Try.ntmps78
    go_wp2_with fail
    go_ret2
    exact ⟨rfl, blk_at rfl, hb0⟩
  · have hs : wrap64 (a + b) = a + b + 18446744073709551616 := by unfold wrap64; omega
    have h1 : a < a + b + 18446744073709551616 := by omega
    go_enter Try.func78, Try.ntmps78
    go_wp2_with fail
    go_ret2
    exact ⟨rfl, blk_at rfl, hb0⟩
end Go.Proofs.Ytaicecnfodhlcaa
