/- Equality of aggregates. -/
import Derived.Test.YtheimbhnckaonaaWideB
import Derived.Test.YtheimbhnckaonaaMap
set_option linter.unusedVariables false
set_option linter.unusedSimpArgs false
namespace Go.Proofs.Ytheimbhnckaonaa
open Go.RowKit

theorem equal_agg (n : Nat) (c1 s1 m1 x1 c2 s2 m2 x2 : Int) (w : World) : (Op.equalIn (n + 2) 73 (aggV c1 s1 m1 x1) (aggV c2 s2 m2 x2)).run Try.prog w = .ok ((c1 == c2) && ((s1 == s2) && ((m1 == m2) && (x1 == x2)))) w := by
  refine eq_struct Try.underlying73 (by kernel_rfl) ?_
  refine fields_cons (by rfl) (by go_simp; rfl) (by go_simp; rfl) (by go_simp) ?_
  refine fields_cons (by rfl) (by go_simp; rfl) (by go_simp; rfl) (by go_simp) ?_
  refine fields_cons (by rfl) (by go_simp; rfl) (by go_simp; rfl) (by go_simp) ?_
  exact fields_last (by rfl) (by go_simp; rfl) (by go_simp; rfl) (by go_simp)
theorem run_eql_agg (c1 s1 m1 x1 c2 s2 m2 x2 : Int) (w : World) : (binOp .eql 73 (aggV c1 s1 m1 x1) (aggV c2 s2 m2 x2)).run Try.prog w = .ok (.bool ((c1 == c2) && ((s1 == s2) && ((m1 == m2) && (x1 == x2))))) w := by
  rw [run_eql_struct, equal_agg]; rfl

set_option maxHeartbeats 2000000 in
theorem right_low (c s mn mx : Int) (w : World) (hc : c ≤ 0) : Calls Try.prog 39 #[aggV c s mn mx] w fun e w' => e = .returned (.bool ((c == 0) && ((s == 0) && ((mn == 0) && (mx == 0))))) ∧ Below w.heap.size w w' := by
  have heq := fun W => run_eql_agg c s mn mx 0 0 0 0 W
  go_enter Try.func39, Try.ntmps39
  go_wp2_with fail
  go_ret
  exact ⟨rfl, (Below.refl _ _).alloc (Nat.le_refl _) _⟩

set_option maxHeartbeats 2000000 in
theorem right_one (s mn mx : Int) (w : World) : Calls Try.prog 39 #[aggV 1 s mn mx] w fun e w' => (∃ x : Bool, e = .returned (.bool x)) ∧ Below w.heap.size w w' := by
  by_cases h1 : s = mn
  · have h2 : (s == mn) = true := by simpa using h1
    go_enter Try.func39, Try.ntmps39
    go_wp2_with fail
    go_ret
    exact ⟨⟨_, rfl⟩, (Below.refl _ _).alloc (Nat.le_refl _) _⟩
  · have h2 : (s == mn) = false := by simpa using h1
    go_enter Try.func39, Try.ntmps39
    go_wp2_with fail
    go_ret
    exact ⟨⟨_, rfl⟩, (Below.refl _ _).alloc (Nat.le_refl _) _⟩

set_option maxHeartbeats 2000000 in
theorem right_crossed (c s mn mx : Int) (w : World) (hc : 1 < c) (hm : mx < mn) : Calls Try.prog 39 #[aggV c s mn mx] w fun e w' => e = .returned (.bool false) ∧ Below w.heap.size w w' := by
  have h1 : ¬ c ≤ 0 := by omega
  have h2 : (c == 1) = false := by simp; omega
  go_enter Try.func39, Try.ntmps39
  go_wp2_with fail
  go_ret
  exact ⟨rfl, (Below.refl _ _).alloc (Nat.le_refl _) _⟩
end Go.Proofs.Ytheimbhnckaonaa
