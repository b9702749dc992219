/- The contract of the document's Put. -/
import Derived.Test.YtheimbhnckaonaaAggC
set_option linter.unusedVariables false
set_option linter.unusedSimpArgs false
namespace Go.Proofs.Ytheimbhnckaonaa
open Go.RowKit Go.Deep

abbrev badV (x : Bool) (p q : Int) : Value := .agg #[.bool x, .int .i64 p, .int .i64 q]

set_option maxHeartbeats 2000000 in
theorem refPut_zero (s mn mx v : Int) (w : World) :
    Calls Try.prog 41 #[aggV 0 s mn mx, .int .i64 v] w fun e w' => e = .returned (.tuple #[aggV 1 v v v, badV false 0 0]) ∧ Below w.heap.size w w' := by
  go_enter Try.func41, Try.ntmps41
  go_wp2_with fail
  refine bodyPost_ret (results_cell_cell rfl _ _ (w.heap.size + 1) 73 #[.int .i64 1, .int .i64 v, .int .i64 v, .int .i64 v] (0, 0) _ rfl ?_ Try.underlying73 rfl (by kernel_rfl) (w.heap.size + 1 + 1) 80 #[.bool false, .int .i64 0, .int .i64 0] (0, 0) _ rfl ?_ Try.underlying80 rfl (by kernel_rfl)) rfl ?_
  · (first | exact blk_at (by (simp; done)) | exact (blk_old (by (simp; done))).trans (blk_at (by (simp; done))) | exact (blk_old (by (simp; done))).trans ((blk_old (by (simp; done))).trans (blk_at (by (simp; done)))))
  · (first | exact blk_at (by (simp; done)) | exact (blk_old (by (simp; done))).trans (blk_at (by (simp; done))) | exact (blk_old (by (simp; done))).trans ((blk_old (by (simp; done))).trans (blk_at (by (simp; done)))))
  · exact ⟨rfl, by (repeat' (first | exact Below.refl _ _ | assumption | refine Below.drew ?_ | refine Below.setCell ?_ ?_ _ | refine Below.alloc ?_ ?_ _ | (simp; done) | (simp; omega) | omega))⟩

set_option maxHeartbeats 4000000 in
theorem refPut_bad1 (c s mn mx v : Int) (w : World) (hc : ¬ c = 0) (h1 : is64 c) (hf : ¬ fits c 1 = true) :
    Calls Try.prog 41 #[aggV c s mn mx, .int .i64 v] w fun e w' => e = .returned (.tuple #[aggV 0 0 0 0, badV true c 1]) ∧ Below w.heap.size w w' := by
  have hadd := fun W => refAdd_any c 1 W h1 (by unfold is64; omega)
  rw [if_neg hf] at hadd
  have hc2 : (c == 0) = false := by simpa using hc
  clear hc
  go_enter Try.func41, Try.ntmps41
  go_wp2_with fail
  refine (hadd _).mono ?_
  rintro e w1 ⟨rfl, rfl⟩
  go_wp2_with fail
  go_region
  all_goals (
    go_wp2_with fail
    refine bodyPost_ret (results_cell_cell rfl _ _ (w.heap.size + 1) 73 #[.int .i64 0, .int .i64 0, .int .i64 0, .int .i64 0] (0, 0) _ rfl ?_ Try.underlying73 rfl (by kernel_rfl) (w.heap.size + 1 + 1) 80 #[.bool true, .int .i64 c, .int .i64 1] (0, 0) _ rfl ?_ Try.underlying80 rfl (by kernel_rfl)) rfl ?_
    · (first | exact blk_at (by (simp; done)) | exact (blk_old (by (simp; done))).trans (blk_at (by (simp; done))) | exact (blk_old (by (simp; done))).trans ((blk_old (by (simp; done))).trans (blk_at (by (simp; done)))))
    · (first | exact blk_at (by (simp; done)) | exact (blk_old (by (simp; done))).trans (blk_at (by (simp; done))) | exact (blk_old (by (simp; done))).trans ((blk_old (by (simp; done))).trans (blk_at (by (simp; done)))))
    · exact ⟨rfl, by (repeat' (first | exact Below.refl _ _ | assumption | refine Below.drew ?_ | refine Below.setCell ?_ ?_ _ | refine Below.alloc ?_ ?_ _ | (simp; done) | (simp; omega) | omega))⟩)

set_option maxHeartbeats 4000000 in
theorem refPut_bad2 (c s mn mx v : Int) (w : World) (hc : ¬ c = 0) (h1 : is64 c) (h2 : is64 s) (h3 : is64 v) (hf : fits c 1 = true) (hf2 : ¬ fits s v = true) :
    Calls Try.prog 41 #[aggV c s mn mx, .int .i64 v] w fun e w' => e = .returned (.tuple #[aggV 0 0 0 0, badV true s v]) ∧ Below w.heap.size w w' := by
  have hadd := fun W => refAdd_any c 1 W h1 (by unfold is64; omega)
  rw [if_pos hf] at hadd
  have hadd2 := fun W => refAdd_any s v W h2 h3
  rw [if_neg hf2] at hadd2
  have hc2 : (c == 0) = false := by simpa using hc
  clear hc
  go_enter Try.func41, Try.ntmps41
  go_wp2_with fail
  refine (hadd _).mono ?_
  rintro e w1 ⟨rfl, rfl⟩
  go_wp2_with fail
  refine (hadd2 _).mono ?_
  rintro e w1 ⟨rfl, rfl⟩
  go_wp2_with fail
  go_region
  all_goals (
    go_wp2_with fail
    refine bodyPost_ret (results_cell_cell rfl _ _ (w.heap.size + 1) 73 #[.int .i64 0, .int .i64 0, .int .i64 0, .int .i64 0] (0, 0) _ rfl ?_ Try.underlying73 rfl (by kernel_rfl) (w.heap.size + 1 + 1) 80 #[.bool true, .int .i64 s, .int .i64 v] (0, 0) _ rfl ?_ Try.underlying80 rfl (by kernel_rfl)) rfl ?_
    · (first | exact blk_at (by (simp; done)) | exact (blk_old (by (simp; done))).trans (blk_at (by (simp; done))) | exact (blk_old (by (simp; done))).trans ((blk_old (by (simp; done))).trans (blk_at (by (simp; done)))))
    · (first | exact blk_at (by (simp; done)) | exact (blk_old (by (simp; done))).trans (blk_at (by (simp; done))) | exact (blk_old (by (simp; done))).trans ((blk_old (by (simp; done))).trans (blk_at (by (simp; done)))))
    · exact ⟨rfl, by (repeat' (first | exact Below.refl _ _ | assumption | refine Below.drew ?_ | refine Below.setCell ?_ ?_ _ | refine Below.alloc ?_ ?_ _ | (simp; done) | (simp; omega) | omega))⟩)

set_option maxHeartbeats 4000000 in
theorem refPut_ok (c s mn mx v : Int) (w : World) (hc : ¬ c = 0) (h1 : is64 c) (h2 : is64 s) (h3 : is64 v) (hf : fits c 1 = true) (hf2 : fits s v = true) :
    Calls Try.prog 41 #[aggV c s mn mx, .int .i64 v] w fun e w' => e = .returned (.tuple #[aggV (c + 1) (s + v) (min mn v) (max mx v), badV false 0 0]) ∧ Below w.heap.size w w' := by
  have hadd := fun W => refAdd_any c 1 W h1 (by unfold is64; omega)
  rw [if_pos hf] at hadd
  have hadd2 := fun W => refAdd_any s v W h2 h3
  rw [if_pos hf2] at hadd2
  have hc2 : (c == 0) = false := by simpa using hc
  clear hc
  rcases Int.lt_or_le v mn with k1 | k1
  · rcases Int.lt_or_le mx v with k2 | k2
    · rw [show min mn v = v from by omega, show max mx v = v from by omega]
      go_enter Try.func41, Try.ntmps41
      go_wp2_with fail
      refine (hadd _).mono ?_
      rintro e w1 ⟨rfl, rfl⟩
      go_wp2_with fail
      refine (hadd2 _).mono ?_
      rintro e w1 ⟨rfl, rfl⟩
      go_wp2_with fail
      refine bodyPost_ret (results_cell_cell rfl _ _ (w.heap.size + 1) 73 #[.int .i64 (c + 1), .int .i64 (s + v), .int .i64 v, .int .i64 v] (0, 0) _ rfl ?_ Try.underlying73 rfl (by kernel_rfl) (w.heap.size + 1 + 1) 80 #[.bool false, .int .i64 0, .int .i64 0] (0, 0) _ rfl ?_ Try.underlying80 rfl (by kernel_rfl)) rfl ?_
      · exact (blk_old (by simp)).trans ((blk_old (by simp)).trans (blk_at (by simp)))
      · exact (blk_old (by simp)).trans (blk_at (by simp))
      · exact ⟨rfl, by (repeat' (first | exact Below.refl _ _ | assumption | refine Below.drew ?_ | refine Below.setCell ?_ ?_ _ | refine Below.alloc ?_ ?_ _ | (simp; done) | (simp; omega) | omega))⟩
    · rw [show min mn v = v from by omega, show max mx v = mx from by omega]
      go_enter Try.func41, Try.ntmps41
      go_wp2_with fail
      refine (hadd _).mono ?_
      rintro e w1 ⟨rfl, rfl⟩
      go_wp2_with fail
      refine (hadd2 _).mono ?_
      rintro e w1 ⟨rfl, rfl⟩
      go_wp2_with fail
      refine bodyPost_ret (results_cell_cell rfl _ _ (w.heap.size + 1) 73 #[.int .i64 (c + 1), .int .i64 (s + v), .int .i64 v, .int .i64 mx] (0, 0) _ rfl ?_ Try.underlying73 rfl (by kernel_rfl) (w.heap.size + 1 + 1) 80 #[.bool false, .int .i64 0, .int .i64 0] (0, 0) _ rfl ?_ Try.underlying80 rfl (by kernel_rfl)) rfl ?_
      · exact (blk_old (by simp)).trans ((blk_old (by simp)).trans (blk_at (by simp)))
      · exact (blk_old (by simp)).trans (blk_at (by simp))
      · exact ⟨rfl, by (repeat' (first | exact Below.refl _ _ | assumption | refine Below.drew ?_ | refine Below.setCell ?_ ?_ _ | refine Below.alloc ?_ ?_ _ | (simp; done) | (simp; omega) | omega))⟩
  · rcases Int.lt_or_le mx v with k2 | k2
    · rw [show min mn v = mn from by omega, show max mx v = v from by omega]
      go_enter Try.func41, Try.ntmps41
      go_wp2_with fail
      refine (hadd _).mono ?_
      rintro e w1 ⟨rfl, rfl⟩
      go_wp2_with fail
      refine (hadd2 _).mono ?_
      rintro e w1 ⟨rfl, rfl⟩
      go_wp2_with fail
      refine bodyPost_ret (results_cell_cell rfl _ _ (w.heap.size + 1) 73 #[.int .i64 (c + 1), .int .i64 (s + v), .int .i64 mn, .int .i64 v] (0, 0) _ rfl ?_ Try.underlying73 rfl (by kernel_rfl) (w.heap.size + 1 + 1) 80 #[.bool false, .int .i64 0, .int .i64 0] (0, 0) _ rfl ?_ Try.underlying80 rfl (by kernel_rfl)) rfl ?_
      · exact (blk_old (by simp)).trans ((blk_old (by simp)).trans (blk_at (by simp)))
      · exact (blk_old (by simp)).trans (blk_at (by simp))
      · exact ⟨rfl, by (repeat' (first | exact Below.refl _ _ | assumption | refine Below.drew ?_ | refine Below.setCell ?_ ?_ _ | refine Below.alloc ?_ ?_ _ | (simp; done) | (simp; omega) | omega))⟩
    · rw [show min mn v = mn from by omega, show max mx v = mx from by omega]
      go_enter Try.func41, Try.ntmps41
      go_wp2_with fail
      refine (hadd _).mono ?_
      rintro e w1 ⟨rfl, rfl⟩
      go_wp2_with fail
      refine (hadd2 _).mono ?_
      rintro e w1 ⟨rfl, rfl⟩
      go_wp2_with fail
      refine bodyPost_ret (results_cell_cell rfl _ _ (w.heap.size + 1) 73 #[.int .i64 (c + 1), .int .i64 (s + v), .int .i64 mn, .int .i64 mx] (0, 0) _ rfl ?_ Try.underlying73 rfl (by kernel_rfl) (w.heap.size + 1 + 1) 80 #[.bool false, .int .i64 0, .int .i64 0] (0, 0) _ rfl ?_ Try.underlying80 rfl (by kernel_rfl)) rfl ?_
      · exact (blk_old (by simp)).trans ((blk_old (by simp)).trans (blk_at (by simp)))
      · exact (blk_old (by simp)).trans (blk_at (by simp))
      · exact ⟨rfl, by (repeat' (first | exact Below.refl _ _ | assumption | refine Below.drew ?_ | refine Below.setCell ?_ ?_ _ | refine Below.alloc ?_ ?_ _ | (simp; done) | (simp; omega) | omega))⟩
end Go.Proofs.Ytheimbhnckaonaa
