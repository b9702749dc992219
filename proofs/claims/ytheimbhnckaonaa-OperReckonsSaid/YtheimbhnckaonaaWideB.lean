/- The sum of two of the document's numbers of 128 bits: total. -/
import Derived.Test.YtheimbhnckaonaaWide
set_option linter.unusedVariables false
set_option linter.unusedSimpArgs false
namespace Go.Proofs.Ytheimbhnckaonaa
open Go.RowKit Go.Deep

set_option maxHeartbeats 4000000 in
theorem plus_same (n : Bool) (a b c d : Int) (w : World) : Calls Try.prog 66 #[wideV n a b, wideV n c d] w fun e w' => ∃ x h l, e = .returned (wideV x h l) ∧ Below w.heap.size w w' := by
  cases n
  all_goals (
    go_enter Try.func66, Try.ntmps66
    go_wp2)
  all_goals (
    refine bodyPost_wide rfl rfl ?_ rfl (fun n h l => ⟨n, h, l, rfl, by (repeat' (first | exact Below.refl _ _ | assumption | refine Below.drew ?_ | refine Below.setCell ?_ ?_ _ | refine Below.alloc ?_ ?_ _ | (simp; done) | (simp; omega) | omega))⟩)
    exact ⟨_, _, _, blk_at (by simp)⟩)

set_option maxHeartbeats 4000000 in
theorem plus_sub (n m : Bool) (a b c d : Int) (w : World) (hne : (n == m) = false) (hab : (decide (a < c) || (decide (c = a) && decide (b < d))) = false) : Calls Try.prog 66 #[wideV n a b, wideV m c d] w fun e w' => ∃ x h l, e = .returned (wideV x h l) ∧ Below w.heap.size w w' := by
  have h1 := fun W => above_any m n c d a b W
  rw [hab] at h1
  clear hab
  go_enter Try.func66, Try.ntmps66
  go_wp2_with fail
  refine (h1 _).mono ?_
  rintro e w1 ⟨rfl, hb⟩
  simp only [World.size_alloc] at hb
  have hres : w1.heap[w.heap.size + 1 + 1]? = some (.cells #[.bool false, .int .u64 0, .int .u64 0] 112 (0, 0)) := (hb.block _ (by omega)).trans (blk_at (by simp))
  have hxa : w1.heap[w.heap.size]? = some (.cells #[.bool n, .int .u64 a, .int .u64 b] 112 (0, 0)) := (hb.block _ (by omega)).trans ((blk_old (by simp; omega)).trans ((blk_old (by simp)).trans (blk_at (by simp))))
  have hxb : w1.heap[w.heap.size + 1]? = some (.cells #[.bool m, .int .u64 c, .int .u64 d] 112 (0, 0)) := (hb.block _ (by omega)).trans ((blk_old (by simp)).trans (blk_at (by simp)))
  have r0 := cell_blk hres 0
  have r1 := cell_blk hres 1
  have r2 := cell_blk hres 2
  have s0 := cell_blk hxa 0
  have s1 := cell_blk hxa 1
  have s2 := cell_blk hxa 2
  have t0 := cell_blk hxb 0
  have t1 := cell_blk hxb 1
  have t2 := cell_blk hxb 2
  simp at r0 r1 r2 s0 s1 s2 t0 t1 t2
  have rf := frozen_blk hres
  have hbw : Below w.heap.size w w1 := by
    refine Below.trans ?_ (hb.mono (by omega))
    (repeat' (first | exact Below.refl _ _ | assumption | refine Below.drew ?_ | refine Below.setCell ?_ ?_ _ | refine Below.alloc ?_ ?_ _ | (simp; done) | (simp; omega) | omega))
  have HRES := Lib.hid hres
  have HBW := Lib.hid hbw
  clear hres hxa hxb hb hbw h1
  cases n
  all_goals go_wp2
  all_goals (
    refine bodyPost_wide rfl rfl ⟨_, _, _, set_blk (set_blk (set_blk HRES.out 0 _) 1 _) 2 _⟩ rfl (fun n h l => ⟨n, h, l, rfl, ?_⟩)
    have hbw := HBW.out
    (repeat' (first | exact Below.refl _ _ | assumption | refine Below.drew ?_ | refine Below.setCell ?_ ?_ _ | refine Below.alloc ?_ ?_ _ | (simp; done) | (simp; omega) | omega)))

set_option maxHeartbeats 4000000 in
theorem plus_turn (n m : Bool) (a b c d : Int) (w : World) (hne : (n == m) = false) (hab : (decide (a < c) || (decide (c = a) && decide (b < d))) = true) : Calls Try.prog 66 #[wideV n a b, wideV m c d] w fun e w' => ∃ x h l, e = .returned (wideV x h l) ∧ Below w.heap.size w w' := by
  have h1 := fun W => above_any m n c d a b W
  rw [hab] at h1
  have hne2 : (m == n) = false := by cases n <;> cases m <;> simp_all
  have hba : (decide (c < a) || (decide (a = c) && decide (d < b))) = false := by
    simp only [Bool.or_eq_true, Bool.and_eq_true, decide_eq_true_eq] at hab
    simp only [Bool.or_eq_false_iff, Bool.and_eq_false_iff, decide_eq_false_iff_not]
    omega
  have h2 := fun W => plus_sub m n c d a b W hne2 hba
  clear hab hne2 hba
  go_enter Try.func66, Try.ntmps66
  go_wp2_with fail
  refine (h1 _).mono ?_
  rintro e w1 ⟨rfl, hb⟩
  simp only [World.size_alloc] at hb
  have hres : w1.heap[w.heap.size + 1 + 1]? = some (.cells #[.bool false, .int .u64 0, .int .u64 0] 112 (0, 0)) := (hb.block _ (by omega)).trans (blk_at (by simp))
  have hxa : w1.heap[w.heap.size]? = some (.cells #[.bool n, .int .u64 a, .int .u64 b] 112 (0, 0)) := (hb.block _ (by omega)).trans ((blk_old (by simp; omega)).trans ((blk_old (by simp)).trans (blk_at (by simp))))
  have hxb : w1.heap[w.heap.size + 1]? = some (.cells #[.bool m, .int .u64 c, .int .u64 d] 112 (0, 0)) := (hb.block _ (by omega)).trans ((blk_old (by simp)).trans (blk_at (by simp)))
  have s0 := cell_blk hxa 0
  have s1 := cell_blk hxa 1
  have s2 := cell_blk hxa 2
  have t0 := cell_blk hxb 0
  have t1 := cell_blk hxb 1
  have t2 := cell_blk hxb 2
  simp at s0 s1 s2 t0 t1 t2
  have hz1 := hb.size
  simp only [World.size_alloc] at hz1
  have hbw : Below w.heap.size w w1 := by
    refine Below.trans ?_ (hb.mono (by omega))
    (repeat' (first | exact Below.refl _ _ | assumption | refine Below.drew ?_ | refine Below.setCell ?_ ?_ _ | refine Below.alloc ?_ ?_ _ | (simp; done) | (simp; omega) | omega))
  have HRES := Lib.hid hres
  have HBW := Lib.hid hbw
  clear hres hxa hxb hb hbw h1
  go_wp2_with fail
  refine (h2 _).mono ?_
  rintro e w2 ⟨x, h, l, rfl, hb2⟩
  have hres : w2.heap[w.heap.size + 1 + 1]? = some (.cells #[.bool false, .int .u64 0, .int .u64 0] 112 (0, 0)) := (hb2.block _ (by omega)).trans HRES.out
  have r0 := cell_blk hres 0
  have r1 := cell_blk hres 1
  have r2 := cell_blk hres 2
  simp at r0 r1 r2
  have rf := frozen_blk hres
  have HRES2 := Lib.hid hres
  have HBW2 := Lib.hid (HBW.out.trans (hb2.mono (by omega)))
  clear hres s0 s1 s2 t0 t1 t2 h2 hb2
  go_wp2_with fail
  refine bodyPost_wide rfl rfl ⟨_, _, _, set_blk (set_blk (set_blk HRES2.out 0 _) 1 _) 2 _⟩ rfl (fun n h l => ⟨n, h, l, rfl, ?_⟩)
  have hbw := HBW2.out
  (repeat' (first | exact Below.refl _ _ | assumption | refine Below.drew ?_ | refine Below.setCell ?_ ?_ _ | refine Below.alloc ?_ ?_ _ | (simp; done) | (simp; omega) | omega))

theorem plus_any (n m : Bool) (a b c d : Int) (w : World) : Calls Try.prog 66 #[wideV n a b, wideV m c d] w fun e w' => ∃ x h l, e = .returned (wideV x h l) ∧ Below w.heap.size w w' := by
  cases hne : (n == m)
  · cases hab : (decide (a < c) || (decide (c = a) && decide (b < d)))
    · exact plus_sub n m a b c d w hne hab
    · exact plus_turn n m a b c d w hne hab
  · obtain rfl : n = m := by simpa using hne
    exact plus_same n a b c d w
end Go.Proofs.Ytheimbhnckaonaa
