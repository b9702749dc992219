/- agg.Put: its contract, whole. (put_ok and put_bad stand in wip/oper/XAggC.lean too.) -/
import Derived.Test.YtaicecnfodhlcaaMDue
set_option linter.unusedVariables false
set_option linter.unusedSimpArgs false
namespace Go.Proofs.Ytaicecnfodhlcaa
open Go.RowKit Go.Deep

set_option maxHeartbeats 2000000 in
theorem put_ok (y1 y2 y3 y4 c s mn mx v : Int) (w : World) (hm : ∀ W, Calls Try.prog 59 #[aggV c s mn mx, aggV 1 v v v] W fun e w' => e = .returned (.tuple #[aggV y1 y2 y3 y4, .nilIface]) ∧ Below W.heap.size W w') :
    Calls Try.prog 30 #[aggV c s mn mx, .int .i64 v] w fun e w' => e = .returned (.tuple #[aggV y1 y2 y3 y4, .nilIface]) ∧ Below w.heap.size w w' := by
  go_enter Try.func30, Try.ntmps30
  go_wp2_with fail
  refine (hm _).mono ?_
  rintro e w1 ⟨rfl, hb⟩
  simp only [World.size_alloc] at hb ⊢
  have hres : w1.heap[w.heap.size + 1]? = some (.cells #[.int .i64 0, .int .i64 0, .int .i64 0, .int .i64 0] 51 (0, 0)) := (hb.block _ (by omega)).trans (blk_at (by simp))
  have hz1 := hb.size
  simp only [World.size_alloc] at hz1
  have r0 := cell_blk hres 0
  have r1 := cell_blk hres 1
  have r2 := cell_blk hres 2
  have r3 := cell_blk hres 3
  simp at r0 r1 r2 r3
  have rf := frozen_blk hres
  have hbw : Below w.heap.size w w1 := by
    refine Below.trans ?_ (hb.mono (by omega))
    (repeat' (first | exact Below.refl _ _ | assumption | refine Below.drew ?_ | refine Below.setCell ?_ ?_ _ | refine Below.alloc ?_ ?_ _ | (simp; done) | (simp; omega) | omega))
  have HRES := Lib.hid hres
  skip
  have HBW := Lib.hid hbw
  clear hres hb hbw  hm
  go_wp2_with fail
  refine bodyPost_ret (results_cell_tmp rfl _ _ (w.heap.size + 1) 51 #[.int .i64 y1, .int .i64 y2, .int .i64 y3, .int .i64 y4] (0, 0) _ rfl ?_ Try.underlying51 rfl (by kernel_rfl)) rfl ?_
  · exact set_blk (set_blk (set_blk (set_blk HRES.out 0 _) 1 _) 2 _) 3 _
  · refine ⟨rfl, ?_⟩
    · have hbw := HBW.out
      (repeat' (first | exact Below.refl _ _ | assumption | refine Below.drew ?_ | refine Below.setCell ?_ ?_ _ | refine Below.alloc ?_ ?_ _ | (simp; done) | (simp; omega) | omega))

set_option maxHeartbeats 2000000 in
theorem put_bad (c s mn mx v : Int) (p q : Int) (w : World) (hm : ∀ W, Calls Try.prog 59 #[aggV c s mn mx, aggV 1 v v v] W fun e w' => ∃ g, e = .returned (.tuple #[aggV 0 0 0 0, .iface 161 (.pointer (some ⟨g, 0, none⟩))]) ∧ IsOver w' g p q ∧ Below W.heap.size W w') :
    Calls Try.prog 30 #[aggV c s mn mx, .int .i64 v] w fun e w' => ∃ g, e = .returned (.tuple #[aggV 0 0 0 0, .iface 161 (.pointer (some ⟨g, 0, none⟩))]) ∧ IsOver w' g p q ∧ Below w.heap.size w w' := by
  go_enter Try.func30, Try.ntmps30
  go_wp2_with fail
  refine (hm _).mono ?_
  rintro e w1 ⟨g0, rfl, ho, hb⟩
  simp only [World.size_alloc] at ho hb ⊢
  have hres : w1.heap[w.heap.size + 1]? = some (.cells #[.int .i64 0, .int .i64 0, .int .i64 0, .int .i64 0] 51 (0, 0)) := (hb.block _ (by omega)).trans (blk_at (by simp))
  have hz1 := hb.size
  simp only [World.size_alloc] at hz1
  have r0 := cell_blk hres 0
  have r1 := cell_blk hres 1
  have r2 := cell_blk hres 2
  have r3 := cell_blk hres 3
  simp at r0 r1 r2 r3
  have rf := frozen_blk hres
  have hbw : Below w.heap.size w w1 := by
    refine Below.trans ?_ (hb.mono (by omega))
    (repeat' (first | exact Below.refl _ _ | assumption | refine Below.drew ?_ | refine Below.setCell ?_ ?_ _ | refine Below.alloc ?_ ?_ _ | (simp; done) | (simp; omega) | omega))
  have HRES := Lib.hid hres
  have HO := Lib.hid ho
  have hg0 : w.heap.size + 1 ≠ g0 := by
    intro e
    rw [← e] at ho
    unfold IsOver at ho
    rw [hres] at ho
    simp at ho
  have HBW := Lib.hid hbw
  clear hres hb hbw ho hm
  go_wp2_with fail
  refine bodyPost_ret (results_cell_tmp rfl _ _ (w.heap.size + 1) 51 #[.int .i64 0, .int .i64 0, .int .i64 0, .int .i64 0] (0, 0) _ rfl ?_ Try.underlying51 rfl (by kernel_rfl)) rfl ?_
  · exact set_blk (set_blk (set_blk (set_blk HRES.out 0 _) 1 _) 2 _) 3 _
  · refine ⟨_, rfl, ?_, ?_⟩
    · unfold IsOver
      rw [blk_setCell_other, blk_setCell_other, blk_setCell_other, blk_setCell_other]
      · exact HO.out
      all_goals (exact fun e => hg0 e.symm)
    · have hbw := HBW.out
      (repeat' (first | exact Below.refl _ _ | assumption | refine Below.drew ?_ | refine Below.setCell ?_ ?_ _ | refine Below.alloc ?_ ?_ _ | (simp; done) | (simp; omega) | omega))


/-- One value more; none: there is no room. -/
def putA (a : Ag) (v : Int) : Option Ag := if a.c = 0 then some ⟨1, v, v, v⟩ else if fits a.c 1 = true ∧ fits a.s v = true then some ⟨a.c + 1, a.s + v, min a.mn v, max a.mx v⟩ else none
theorem ag_ok {c s mn mx : Int} (h1 : is64 c) (h2 : is64 s) (h3 : is64 mn) (h4 : is64 mx) : Ag.Ok ⟨c, s, mn, mx⟩ := ⟨h1, h2, h3, h4⟩
theorem putA_ok {a b : Ag} {v : Int} (ha : a.Ok) (hv : is64 v) (h : putA a v = some b) : b.Ok := by
  unfold putA at h
  split at h
  · cases h; exact ag_ok (by unfold is64; omega) hv hv hv
  · split at h
    · rename_i h1 h2
      cases h
      have h3 := ha.mn
      have h4 := ha.mx
      have h2a := h2.1
      have h2b := h2.2
      unfold fits at h2a h2b
      unfold is64 at *
      simp only [decide_eq_true_eq] at h2a h2b
      refine ag_ok ?_ ?_ ?_ ?_ <;> (unfold is64; omega)
    · cases h
theorem put_some (a b : Ag) (v : Int) (w : World) (ha : a.Ok) (hv : is64 v) (h : putA a v = some b) :
    Calls Try.prog 30 #[aggV a.c a.s a.mn a.mx, .int .i64 v] w fun e w' => e = .returned (.tuple #[aggV b.c b.s b.mn b.mx, .nilIface]) ∧ Below w.heap.size w w' := by
  refine put_ok b.c b.s b.mn b.mx a.c a.s a.mn a.mx v w fun W => ?_
  unfold putA at h
  split at h
  · rename_i h1
    cases h
    rw [h1]
    exact merge_zero a.s a.mn a.mx v W
  · split at h
    · rename_i h1 h2
      cases h
      exact merge_ok a.c a.s a.mn a.mx v W h1 ha.c ha.s hv h2.1 h2.2
    · cases h
theorem put_none (a : Ag) (v : Int) (w : World) (ha : a.Ok) (hv : is64 v) (h : putA a v = none) :
    Calls Try.prog 30 #[aggV a.c a.s a.mn a.mx, .int .i64 v] w fun e w' => ∃ g, e = .returned (.tuple #[aggV 0 0 0 0, .iface 161 (.pointer (some ⟨g, 0, none⟩))]) ∧ Below w.heap.size w w' := by
  unfold putA at h
  split at h
  · cases h
  · rename_i h1
    split at h
    · cases h
    · rename_i h2
      by_cases hf : fits a.c 1 = true
      · refine (put_bad a.c a.s a.mn a.mx v _ _ w fun W => merge_bad2 a.c a.s a.mn a.mx v W h1 ha.c ha.s hv hf (fun h3 => h2 ⟨hf, h3⟩)).mono ?_
        rintro e w' ⟨g, he, _, hb⟩
        exact ⟨g, he, hb⟩
      · refine (put_bad a.c a.s a.mn a.mx v _ _ w fun W => merge_bad1 a.c a.s a.mn a.mx v W h1 ha.c hf).mono ?_
        rintro e w' ⟨g, he, _, hb⟩
        exact ⟨g, he, hb⟩
/-- What Put tells: the sum (none where there is no room), and whether it is told with an error. -/
theorem mput_any (a : Ag) (v : Int) (w : World) (ha : a.Ok) (hv : is64 v) :
    Calls Try.prog 30 #[aggV a.c a.s a.mn a.mx, .int .i64 v] w fun e w' => ∃ (b : Ag) (err : Value), e = .returned (.tuple #[aggV b.c b.s b.mn b.mx, err]) ∧ ((putA a v = some b ∧ err = .nilIface) ∨ (putA a v = none ∧ ∃ g, err = .iface 161 (.pointer (some ⟨g, 0, none⟩)))) ∧ Below w.heap.size w w' := by
  cases h : putA a v with
  | none =>
    refine (put_none a v w ha hv h).mono ?_
    rintro e w' ⟨g, he, hb⟩
    exact ⟨⟨0, 0, 0, 0⟩, _, he, .inr ⟨rfl, g, rfl⟩, hb⟩
  | some b =>
    refine (put_some a b v w ha hv h).mono ?_
    rintro e w' ⟨he, hb⟩
    exact ⟨b, _, he, .inl ⟨rfl, rfl⟩, hb⟩
end Go.Proofs.Ytaicecnfodhlcaa
