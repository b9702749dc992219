/- Total contracts of the document's numbers of 128 bits. -/
import Derived.Test.YtheimbhnckaonaaAggD
set_option linter.unusedVariables false
set_option linter.unusedSimpArgs false
namespace Go.Proofs.Ytheimbhnckaonaa
open Go.RowKit Go.Deep

abbrev wideV (n : Bool) (h l : Int) : Value := .agg #[.bool n, .int .u64 h, .int .u64 l]

/-- A number of 128 bits handed back. -/
theorem bodyPost_wide {fn : Func} {p : Tmp} (h : fn.results = #[.cell p 112]) {a : Act} {w : World} {R : Ending → World → Prop} {g : Nat} (hp : a.tmps.getD p undef = .pointer (some ⟨g, 0, none⟩))
    (hb : ∃ n x y, w.heap[g]? = some (.cells #[.bool n, .int .u64 x, .int .u64 y] 112 (0, 0))) (hd : a.defers = []) (hR : ∀ n x y, R (.returned (wideV n x y)) w) : bodyPost Try.prog fn R .ret a w := by
  obtain ⟨n, x, y, hb⟩ := hb
  exact bodyPost_ret (results_cell_row h a.tmps w g 112 _ (0, 0) _ hp hb Try.underlying112 rfl (by kernel_rfl)) hd (hR _ _ _)

set_option maxHeartbeats 1000000 in
theorem size_any (a : Int) (w : World) : Calls Try.prog 91 #[.int .i64 a] w fun e w' => ∃ x, e = .returned (.int .u64 x) ∧ w' = w := by
  go_enter Try.func91, Try.ntmps91
  go_wp2
  all_goals go_ret
  all_goals exact ⟨_, rfl, rfl⟩

set_option maxHeartbeats 1000000 in
theorem above_any (n m : Bool) (a b c d : Int) (w : World) : Calls Try.prog 90 #[wideV n a b, wideV m c d] w fun e w' => e = .returned (.bool (decide (c < a) || (decide (a = c) && decide (d < b)))) ∧ Below w.heap.size w w' := by
  by_cases h1 : c < a
  · rw [decide_eq_true h1, Bool.true_or]
    go_enter Try.func90, Try.ntmps90
    go_wp2
    go_ret
    exact ⟨rfl, by (repeat' (first | exact Below.refl _ _ | assumption | refine Below.drew ?_ | refine Below.setCell ?_ ?_ _ | refine Below.alloc ?_ ?_ _ | (simp; done) | (simp; omega) | omega))⟩
  · rw [decide_eq_false h1, Bool.false_or]
    by_cases h2 : a = c
    · subst h2
      rw [decide_eq_true rfl, Bool.true_and]
      by_cases h3 : d < b
      · rw [decide_eq_true h3]
        go_enter Try.func90, Try.ntmps90
        go_wp2
        go_ret
        exact ⟨rfl, by (repeat' (first | exact Below.refl _ _ | assumption | refine Below.drew ?_ | refine Below.setCell ?_ ?_ _ | refine Below.alloc ?_ ?_ _ | (simp; done) | (simp; omega) | omega))⟩
      · rw [decide_eq_false h3]
        go_enter Try.func90, Try.ntmps90
        go_wp2
        go_ret
        exact ⟨rfl, by (repeat' (first | exact Below.refl _ _ | assumption | refine Below.drew ?_ | refine Below.setCell ?_ ?_ _ | refine Below.alloc ?_ ?_ _ | (simp; done) | (simp; omega) | omega))⟩
    · have h3 : (a == c) = false := by simpa using h2
      rw [decide_eq_false h2, Bool.false_and]
      go_enter Try.func90, Try.ntmps90
      go_wp2
      go_ret
      exact ⟨rfl, by (repeat' (first | exact Below.refl _ _ | assumption | refine Below.drew ?_ | refine Below.setCell ?_ ?_ _ | refine Below.alloc ?_ ?_ _ | (simp; done) | (simp; omega) | omega))⟩

set_option maxHeartbeats 2000000 in
theorem times_any (a b : Int) (w : World) : Calls Try.prog 68 #[.int .i64 a, .int .i64 b] w fun e w' => ∃ n h l, e = .returned (wideV n h l) ∧ Below w.heap.size w w' := by
  have hsz := size_any
  go_enter Try.func68, Try.ntmps68
  go_wp2_with fail
  refine (hsz _ _).mono ?_
  rintro e w' ⟨x, rfl, rfl⟩
  go_wp2_with fail
  refine (hsz _ _).mono ?_
  rintro e w' ⟨y, rfl, rfl⟩
  go_wp2_with fail
  all_goals (
    refine bodyPost_wide rfl rfl ?_ rfl (fun n h l => ⟨n, h, l, rfl, by (repeat' (first | exact Below.refl _ _ | assumption | refine Below.drew ?_ | refine Below.setCell ?_ ?_ _ | refine Below.alloc ?_ ?_ _ | (simp; done) | (simp; omega) | omega))⟩)
    exact ⟨_, _, _, (blk_old (by simp)).trans (blk_at (by simp))⟩)

set_option maxHeartbeats 2000000 in
theorem one_any (a : Int) (w : World) : Calls Try.prog 67 #[.int .i64 a] w fun e w' => ∃ n h l, e = .returned (wideV n h l) ∧ Below w.heap.size w w' := by
  have ht := fun W => times_any a 1 W
  go_enter Try.func67, Try.ntmps67
  go_wp2_with fail
  refine (ht _).mono ?_
  rintro e w1 ⟨n, h, l, rfl, hb⟩
  simp only [World.size_alloc] at hb
  have hres : w1.heap[w.heap.size]? = some (.cells #[.bool false, .int .u64 0, .int .u64 0] 112 (0, 0)) := (hb.block _ (by omega)).trans (blk_at rfl)
  have r0 := cell_blk hres 0
  have r1 := cell_blk hres 1
  have r2 := cell_blk hres 2
  simp at r0 r1 r2
  have rf := frozen_blk hres
  have hbw : Below w.heap.size w w1 := by
    refine Below.trans ?_ (hb.mono (by omega))
    (repeat' (first | exact Below.refl _ _ | assumption | refine Below.drew ?_ | refine Below.setCell ?_ ?_ _ | refine Below.alloc ?_ ?_ _ | (simp; done) | (simp; omega) | omega))
  have HRES := Lib.hid hres
  have HBW := Lib.hid hbw
  clear hres hb hbw ht
  go_wp2_with fail
  refine bodyPost_wide rfl rfl ⟨_, _, _, set_blk (set_blk (set_blk HRES.out 0 _) 1 _) 2 _⟩ rfl (fun n h l => ⟨n, h, l, rfl, ?_⟩)
  have hbw := HBW.out
  (repeat' (first | exact Below.refl _ _ | assumption | refine Below.drew ?_ | refine Below.setCell ?_ ?_ _ | refine Below.alloc ?_ ?_ _ | (simp; done) | (simp; omega) | omega))

set_option maxHeartbeats 2000000 in
theorem less_any (n m : Bool) (a b c d : Int) (w : World) : Calls Try.prog 69 #[wideV n a b, wideV m c d] w fun e w' => ∃ x : Bool, e = .returned (.bool x) ∧ Below w.heap.size w w' := by
  have h1 := fun W => above_any m n c d a b W
  have h2 := fun W => above_any n m a b c d W
  cases n <;> cases m
  all_goals (
    go_enter Try.func69, Try.ntmps69
    go_wp2_with (first | (go_at_call 90; with_reducible refine (h1 _).mono ?_; rintro e w1 ⟨rfl, hb⟩) | (go_at_call 90; with_reducible refine (h2 _).mono ?_; rintro e w1 ⟨rfl, hb⟩))
    go_ret
    first
      | (refine ⟨_, rfl, Below.trans ?_ (hb.mono ?_)⟩)
      | (refine ⟨_, rfl, ?_⟩)
    all_goals (repeat' (first | exact Below.refl _ _ | assumption | refine Below.drew ?_ | refine Below.setCell ?_ ?_ _ | refine Below.alloc ?_ ?_ _ | (simp; done) | (simp; omega) | omega)))
end Go.Proofs.Ytheimbhnckaonaa
