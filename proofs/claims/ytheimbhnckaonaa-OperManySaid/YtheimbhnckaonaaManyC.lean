/- OperMany: the contracts of within and end. -/
import Derived.Test.YtheimbhnckaonaaManyP
set_option linter.unusedVariables false
set_option linter.unusedSimpArgs false
namespace Go.Proofs.Ytheimbhnckaonaa
open Go.RowKit

set_option maxHeartbeats 1000000 in
theorem within_any (a n : Int) (w : World) (hn : 1 ≤ n) (hn2 : n ≤ 100000) :
    Calls Try.prog 32 #[.int .i64 a, .int .i64 n] w fun e w' => e = .returned (.int .i64 (wi a n)) ∧ w = w' := by
  have h1 : a.tmod n < n := Int.tmod_lt_of_pos a (by omega)
  have h2 : -n < a.tmod n := by
    have := Int.lt_tmod_of_pos a (b := n) (by omega)
    omega
  have hne : ¬ n = 0 := by omega
  have hne2 : (n == 0) = false := by simpa using hne
  have hm1 : ¬ n = -1 := by omega
  unfold wi
  generalize hr : a.tmod n = r at *
  by_cases h3 : r < 0
  · rw [if_pos h3]
    go_enter Try.func32, Try.ntmps32
    go_wp2_with fail
    go_ret
    exact ⟨ret_int (by first | rfl | omega), rfl⟩
  · rw [if_neg h3]
    go_enter Try.func32, Try.ntmps32
    go_wp2_with fail
    go_ret
    exact ⟨ret_int (by first | rfl | omega), rfl⟩

set_option maxHeartbeats 1000000 in
theorem lawEnd_any (c1 : Int) (c2 : ByteArray) (c3 : Int) (w : World) (h1 : -4611686018427387904 ≤ c3) (h2 : c3 ≤ 4611686018427387904) :
    Calls Try.prog 34 #[.agg #[.int .i64 c1, .string c2, .int .i64 c3]] w fun e w' => e = .returned (.int .i64 (mEnd ⟨c1, c2, c3⟩)) ∧ Below w.heap.size w w' := by
  unfold mEnd
  simp only
  by_cases h3 : c1 = 0
  · rw [if_pos h3]
    subst h3
    go_enter Try.func34, Try.ntmps34
    go_wp2_with fail
    go_ret
    exact ⟨rfl, (Below.refl _ _).alloc (Nat.le_refl _) _⟩
  · rw [if_neg h3]
    have h4 : (c1 == 0) = false := by simpa using h3
    go_enter Try.func34, Try.ntmps34
    go_wp2_with fail
    go_ret
    exact ⟨rfl, (Below.refl _ _).alloc (Nat.le_refl _) _⟩
end Go.Proofs.Ytheimbhnckaonaa
