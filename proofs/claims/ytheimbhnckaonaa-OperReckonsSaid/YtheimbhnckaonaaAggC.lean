/- The contracts of agg.Put and of Reckon; errors. -/
import Derived.Test.YtheimbhnckaonaaAggB
set_option linter.unusedVariables false
set_option linter.unusedSimpArgs false
namespace Go.Proofs.Ytheimbhnckaonaa
open Go.RowKit Go.Deep

set_option maxHeartbeats 2000000 in
theorem put_ok (y1 y2 y3 y4 c s mn mx v : Int) (w : World) (hm : ∀ W, Calls Try.prog 92 #[aggV c s mn mx, aggV 1 v v v] W fun e w' => e = .returned (.tuple #[aggV y1 y2 y3 y4, .nilIface]) ∧ Below W.heap.size W w') :
    Calls Try.prog 70 #[aggV c s mn mx, .int .i64 v] w fun e w' => e = .returned (.tuple #[aggV y1 y2 y3 y4, .nilIface]) ∧ Below w.heap.size w w' := by
  go_enter Try.func70, Try.ntmps70
  go_wp2_with fail
  refine (hm _).mono ?_
  rintro e w1 ⟨rfl, hb⟩
  simp only [World.size_alloc] at hb ⊢
  have hres : w1.heap[w.heap.size + 1]? = some (.cells #[.int .i64 0, .int .i64 0, .int .i64 0, .int .i64 0] 73 (0, 0)) := (hb.block _ (by omega)).trans (blk_at (by simp))
  have hz1 := hb.size
  simp only [World.size_alloc] at hz1
  have r0 := cell_blk hres 0
  have r1 := cell_blk hres 1
  have r2 := cell_blk hres 2
  have r3 := cell_blk hres 3
  simp at r0 r1 r2 r3
  have rf := frozen_blk hres
  have hbw : Below w.heap.size w w1 := by
    refine Below.trans ?_ (hb.mono (by omega))
    (repeat' (first | exact Below.refl _ _ | assumption | refine Below.drew ?_ | refine Below.setCell ?_ ?_ _ | refine Below.alloc ?_ ?_ _ | (simp; done) | (simp; omega) | omega))
  have HRES := Lib.hid hres
  skip
  have HBW := Lib.hid hbw
  clear hres hb hbw  hm
  go_wp2_with fail
  refine bodyPost_ret (results_cell_tmp rfl _ _ (w.heap.size + 1) 73 #[.int .i64 y1, .int .i64 y2, .int .i64 y3, .int .i64 y4] (0, 0) _ rfl ?_ Try.underlying73 rfl (by kernel_rfl)) rfl ?_
  · exact set_blk (set_blk (set_blk (set_blk HRES.out 0 _) 1 _) 2 _) 3 _
  · refine ⟨rfl, ?_⟩
    · have hbw := HBW.out
      (repeat' (first | exact Below.refl _ _ | assumption | refine Below.drew ?_ | refine Below.setCell ?_ ?_ _ | refine Below.alloc ?_ ?_ _ | (simp; done) | (simp; omega) | omega))

set_option maxHeartbeats 2000000 in
theorem put_bad (c s mn mx v : Int) (p q : Int) (w : World) (hm : ∀ W, Calls Try.prog 92 #[aggV c s mn mx, aggV 1 v v v] W fun e w' => ∃ g, e = .returned (.tuple #[aggV 0 0 0 0, .iface 173 (.pointer (some ⟨g, 0, none⟩))]) ∧ IsOver w' g p q ∧ Below W.heap.size W w') :
    Calls Try.prog 70 #[aggV c s mn mx, .int .i64 v] w fun e w' => ∃ g, e = .returned (.tuple #[aggV 0 0 0 0, .iface 173 (.pointer (some ⟨g, 0, none⟩))]) ∧ IsOver w' g p q ∧ Below w.heap.size w w' := by
  go_enter Try.func70, Try.ntmps70
  go_wp2_with fail
  refine (hm _).mono ?_
  rintro e w1 ⟨g0, rfl, ho, hb⟩
  simp only [World.size_alloc] at ho hb ⊢
  have hres : w1.heap[w.heap.size + 1]? = some (.cells #[.int .i64 0, .int .i64 0, .int .i64 0, .int .i64 0] 73 (0, 0)) := (hb.block _ (by omega)).trans (blk_at (by simp))
  have hz1 := hb.size
  simp only [World.size_alloc] at hz1
  have r0 := cell_blk hres 0
  have r1 := cell_blk hres 1
  have r2 := cell_blk hres 2
  have r3 := cell_blk hres 3
  simp at r0 r1 r2 r3
  have rf := frozen_blk hres
  have hbw : Below w.heap.size w w1 := by
    refine Below.trans ?_ (hb.mono (by omega))
    (repeat' (first | exact Below.refl _ _ | assumption | refine Below.drew ?_ | refine Below.setCell ?_ ?_ _ | refine Below.alloc ?_ ?_ _ | (simp; done) | (simp; omega) | omega))
  have HRES := Lib.hid hres
  have HO := Lib.hid ho
  have hg0 : w.heap.size + 1 ≠ g0 := by
    intro e
    rw [← e] at ho
    unfold IsOver at ho
    rw [hres] at ho
    simp at ho
  have HBW := Lib.hid hbw
  clear hres hb hbw ho hm
  go_wp2_with fail
  refine bodyPost_ret (results_cell_tmp rfl _ _ (w.heap.size + 1) 73 #[.int .i64 0, .int .i64 0, .int .i64 0, .int .i64 0] (0, 0) _ rfl ?_ Try.underlying73 rfl (by kernel_rfl)) rfl ?_
  · exact set_blk (set_blk (set_blk (set_blk HRES.out 0 _) 1 _) 2 _) 3 _
  · refine ⟨_, rfl, ?_, ?_⟩
    · unfold IsOver
      rw [blk_setCell_other, blk_setCell_other, blk_setCell_other, blk_setCell_other]
      · exact HO.out
      all_goals (exact fun e => hg0 e.symm)
    · have hbw := HBW.out
      (repeat' (first | exact Below.refl _ _ | assumption | refine Below.drew ?_ | refine Below.setCell ?_ ?_ _ | refine Below.alloc ?_ ?_ _ | (simp; done) | (simp; omega) | omega))

set_option maxHeartbeats 2000000 in
theorem reckon_ok (o : Option Addr) (y1 y2 y3 y4 c s mn mx v : Int) (w : World) (hm : ∀ W, Calls Try.prog 70 #[aggV c s mn mx, .int .i64 v] W fun e w' => e = .returned (.tuple #[aggV y1 y2 y3 y4, .nilIface]) ∧ Below W.heap.size W w') :
    Calls Try.prog 40 #[.pointer o, aggV c s mn mx, .int .i64 v] w fun e w' => e = .returned (.tuple #[aggV y1 y2 y3 y4, .nilIface]) ∧ Below w.heap.size w w' := by
  go_enter Try.func40, Try.ntmps40
  go_wp2_with fail
  refine (hm _).mono ?_
  rintro e w1 ⟨rfl, hb⟩
  simp only [World.size_alloc] at hb ⊢
  have hres : w1.heap[w.heap.size + 1]? = some (.cells #[.int .i64 0, .int .i64 0, .int .i64 0, .int .i64 0] 73 (0, 0)) := (hb.block _ (by omega)).trans (blk_at (by simp))
  have hz1 := hb.size
  simp only [World.size_alloc] at hz1
  have r0 := cell_blk hres 0
  have r1 := cell_blk hres 1
  have r2 := cell_blk hres 2
  have r3 := cell_blk hres 3
  simp at r0 r1 r2 r3
  have rf := frozen_blk hres
  have hbw : Below w.heap.size w w1 := by
    refine Below.trans ?_ (hb.mono (by omega))
    (repeat' (first | exact Below.refl _ _ | assumption | refine Below.drew ?_ | refine Below.setCell ?_ ?_ _ | refine Below.alloc ?_ ?_ _ | (simp; done) | (simp; omega) | omega))
  have HRES := Lib.hid hres
  skip
  have HBW := Lib.hid hbw
  clear hres hb hbw  hm
  go_wp2_with fail
  refine bodyPost_ret (results_cell_tmp rfl _ _ (w.heap.size + 1) 73 #[.int .i64 y1, .int .i64 y2, .int .i64 y3, .int .i64 y4] (0, 0) _ rfl ?_ Try.underlying73 rfl (by kernel_rfl)) rfl ?_
  · exact set_blk (set_blk (set_blk (set_blk HRES.out 0 _) 1 _) 2 _) 3 _
  · refine ⟨rfl, ?_⟩
    · have hbw := HBW.out
      (repeat' (first | exact Below.refl _ _ | assumption | refine Below.drew ?_ | refine Below.setCell ?_ ?_ _ | refine Below.alloc ?_ ?_ _ | (simp; done) | (simp; omega) | omega))

set_option maxHeartbeats 2000000 in
theorem reckon_bad (o : Option Addr) (c s mn mx v : Int) (p q : Int) (w : World) (hm : ∀ W, Calls Try.prog 70 #[aggV c s mn mx, .int .i64 v] W fun e w' => ∃ g, e = .returned (.tuple #[aggV 0 0 0 0, .iface 173 (.pointer (some ⟨g, 0, none⟩))]) ∧ IsOver w' g p q ∧ Below W.heap.size W w') :
    Calls Try.prog 40 #[.pointer o, aggV c s mn mx, .int .i64 v] w fun e w' => ∃ g, e = .returned (.tuple #[aggV 0 0 0 0, .iface 173 (.pointer (some ⟨g, 0, none⟩))]) ∧ IsOver w' g p q ∧ Below w.heap.size w w' := by
  go_enter Try.func40, Try.ntmps40
  go_wp2_with fail
  refine (hm _).mono ?_
  rintro e w1 ⟨g0, rfl, ho, hb⟩
  simp only [World.size_alloc] at ho hb ⊢
  have hres : w1.heap[w.heap.size + 1]? = some (.cells #[.int .i64 0, .int .i64 0, .int .i64 0, .int .i64 0] 73 (0, 0)) := (hb.block _ (by omega)).trans (blk_at (by simp))
  have hz1 := hb.size
  simp only [World.size_alloc] at hz1
  have r0 := cell_blk hres 0
  have r1 := cell_blk hres 1
  have r2 := cell_blk hres 2
  have r3 := cell_blk hres 3
  simp at r0 r1 r2 r3
  have rf := frozen_blk hres
  have hbw : Below w.heap.size w w1 := by
    refine Below.trans ?_ (hb.mono (by omega))
    (repeat' (first | exact Below.refl _ _ | assumption | refine Below.drew ?_ | refine Below.setCell ?_ ?_ _ | refine Below.alloc ?_ ?_ _ | (simp; done) | (simp; omega) | omega))
  have HRES := Lib.hid hres
  have HO := Lib.hid ho
  have hg0 : w.heap.size + 1 ≠ g0 := by
    intro e
    rw [← e] at ho
    unfold IsOver at ho
    rw [hres] at ho
    simp at ho
  have HBW := Lib.hid hbw
  clear hres hb hbw ho hm
  go_wp2_with fail
  refine bodyPost_ret (results_cell_tmp rfl _ _ (w.heap.size + 1) 73 #[.int .i64 0, .int .i64 0, .int .i64 0, .int .i64 0] (0, 0) _ rfl ?_ Try.underlying73 rfl (by kernel_rfl)) rfl ?_
  · exact set_blk (set_blk (set_blk (set_blk HRES.out 0 _) 1 _) 2 _) 3 _
  · refine ⟨_, rfl, ?_, ?_⟩
    · unfold IsOver
      rw [blk_setCell_other, blk_setCell_other, blk_setCell_other, blk_setCell_other]
      · exact HO.out
      all_goals (exact fun e => hg0 e.symm)
    · have hbw := HBW.out
      (repeat' (first | exact Below.refl _ _ | assumption | refine Below.drew ?_ | refine Below.setCell ?_ ?_ _ | refine Below.alloc ?_ ?_ _ | (simp; done) | (simp; omega) | omega))

end Go.Proofs.Ytheimbhnckaonaa
