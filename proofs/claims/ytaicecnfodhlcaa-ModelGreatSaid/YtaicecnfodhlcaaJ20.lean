/- The law's small helpers. -/
import Derived.Test.YtaicecnfodhlcaaJ03
set_option linter.unusedVariables false
set_option linter.unusedSimpArgs false
namespace Go.Proofs.Ytaicecnfodhlcaa
open Go.RowKit

/-- A number from 0 to n - 1. -/
def wi (a n : Int) : Int := if a.tmod n < 0 then a.tmod n + n else a.tmod n
theorem wi_bounds (a n : Int) (hn : 1 ≤ n) : 0 ≤ wi a n ∧ wi a n < n := by
  have h1 : a.tmod n < n := Int.tmod_lt_of_pos a (by omega)
  have h2 : -n < a.tmod n := by
    have := Int.lt_tmod_of_pos a (b := n) (by omega)
    omega
  unfold wi
  split <;> omega
set_option maxHeartbeats 1000000 in
theorem within_any (a n : Int) (w : World) (hn : 1 ≤ n) (hn2 : n ≤ 100000) :
    Calls Try.prog 7 #[.int .i64 a, .int .i64 n] w fun e w' => e = .returned (.int .i64 (wi a n)) ∧ w = w' := by
  have h1 : a.tmod n < n := Int.tmod_lt_of_pos a (by omega)
  have h2 : -n < a.tmod n := by
    have := Int.lt_tmod_of_pos a (b := n) (by omega)
    omega
  have hne : ¬ n = 0 := by omega
  have hne2 : (n == 0) = false := by simpa using hne
  have hm1 : ¬ n = -1 := by omega
  unfold wi
  generalize hr : a.tmod n = r at *
  by_cases h3 : r < 0
  · rw [if_pos h3]
    go_enter Try.func7, Try.ntmps7
    go_wp2_with fail
    go_ret
    exact ⟨ret_int (by first | rfl | omega), rfl⟩
  · rw [if_neg h3]
    go_enter Try.func7, Try.ntmps7
    go_wp2_with fail
    go_ret
    exact ⟨ret_int (by first | rfl | omega), rfl⟩
end Go.Proofs.Ytaicecnfodhlcaa
