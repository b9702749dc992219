/- The contracts of agg's Merge and Put, and of Reckon. -/
import Derived.Test.YtaicecnfodhlcaaAgg
import Derived.Laws.Rows
set_option linter.unusedVariables false
set_option linter.unusedSimpArgs false
namespace Go.Proofs.Ytaicecnfodhlcaa
open Go.RowKit Go.Deep

theorem results_cell_tmp {P : Program} {fn : Func} {p q : Tmp} {ty : TypeId} (h : fn.results = #[.cell p ty, .tmp q]) (tmps : Array Value) (w : World) (g : Nat) (t : TypeId) (cs : Array Value) (fr : Nat × Nat) (d : TypeDesc)
    (hp : tmps.getD p undef = .pointer (some ⟨g, 0, none⟩)) (hg : w.heap[g]? = some (.cells cs t fr))
    (hu : P.underlying ty = some d) (hd : (match d with | .struct _ | .array _ _ => true | _ => false) = true) (hi : (P.info? ty).map (·.size) = some cs.size) :
    (results fn tmps).run P w = .ok (.tuple #[.agg cs, tmps.getD q undef]) w := by
  have hp' : tmps[p]?.getD undef = .pointer (some ⟨g, 0, none⟩) := by simpa using hp
  simp [results, h, hp', asAddr, run_loadVar_row w g t ty cs fr d hg hu hd hi]
theorem results_cell_cell {P : Program} {fn : Func} {p q : Tmp} {ty ty2 : TypeId} (h : fn.results = #[.cell p ty, .cell q ty2]) (tmps : Array Value) (w : World) (g : Nat) (t : TypeId) (cs : Array Value) (fr : Nat × Nat) (d : TypeDesc)
    (hp : tmps.getD p undef = .pointer (some ⟨g, 0, none⟩)) (hg : w.heap[g]? = some (.cells cs t fr))
    (hu : P.underlying ty = some d) (hd : (match d with | .struct _ | .array _ _ => true | _ => false) = true) (hi : (P.info? ty).map (·.size) = some cs.size)
    (g2 : Nat) (t2 : TypeId) (cs2 : Array Value) (fr2 : Nat × Nat) (d2 : TypeDesc)
    (hp2 : tmps.getD q undef = .pointer (some ⟨g2, 0, none⟩)) (hg2 : w.heap[g2]? = some (.cells cs2 t2 fr2))
    (hu2 : P.underlying ty2 = some d2) (hd2 : (match d2 with | .struct _ | .array _ _ => true | _ => false) = true) (hi2 : (P.info? ty2).map (·.size) = some cs2.size) :
    (results fn tmps).run P w = .ok (.tuple #[.agg cs, .agg cs2]) w := by
  have hp' : tmps[p]?.getD undef = .pointer (some ⟨g, 0, none⟩) := by simpa using hp
  have hq' : tmps[q]?.getD undef = .pointer (some ⟨g2, 0, none⟩) := by simpa using hp2
  simp [results, h, hp', hq', asAddr, run_loadVar_row w g t ty cs fr d hg hu hd hi, run_loadVar_row w g2 t2 ty2 cs2 fr2 d2 hg2 hu2 hd2 hi2]

abbrev aggV (c s mn mx : Int) : Value := .agg #[.int .i64 c, .int .i64 s, .int .i64 mn, .int .i64 mx]

set_option maxHeartbeats 2000000 in
theorem merge_zero (s mn mx v : Int) (w : World) :
    Calls Try.prog 59 #[aggV 0 s mn mx, aggV 1 v v v] w fun e w' => e = .returned (.tuple #[aggV 1 v v v, .nilIface]) ∧ Below w.heap.size w w' := by
  go_enter Try.func59, Try.ntmps59
  go_wp2_with fail
  refine bodyPost_ret (results_cell_tmp rfl _ _ (w.heap.size + 2) 51 #[.int .i64 1, .int .i64 v, .int .i64 v, .int .i64 v] (0, 0) _ rfl ?_ Try.underlying51 rfl (by kernel_rfl)) rfl ?_
  · exact blk_at (by simp)
  · exact ⟨rfl, by (repeat' (first | exact Below.refl _ _ | refine Below.drew ?_ | refine Below.setCell ?_ ?_ _ | refine Below.alloc ?_ ?_ _ | (simp; done) | (simp; omega) | omega))⟩

theorem set_blk {w : World} {g : Nat} {cs : Array Value} {t : TypeId} {fr : Nat × Nat} (h : w.heap[g]? = some (.cells cs t fr)) (k : Nat) (v : Value) : (w.setCell ⟨g, k, none⟩ v).heap[g]? = some (.cells (cs.setIfInBounds k v) t fr) := by
  unfold World.setCell
  simp [Array.getElem?_modify, h]
theorem cell_blk {w : World} {g : Nat} {cs : Array Value} {t : TypeId} {fr : Nat × Nat} (h : w.heap[g]? = some (.cells cs t fr)) (k : Nat) : w.cell? ⟨g, k, none⟩ = cs[k]? := by
  simp [World.cell?, h]
theorem frozen_blk {w : World} {g : Nat} {cs : Array Value} {t : TypeId} (h : w.heap[g]? = some (.cells cs t (0, 0))) (k : Nat) : w.frozen? ⟨g, k, none⟩ = false := by
  simp [World.frozen?, h]

set_option maxHeartbeats 2000000 in
theorem merge_bad1 (c s mn mx v : Int) (w : World) (hc : ¬ c = 0) (h1 : is64 c) (hf : ¬ fits c 1 = true) :
    Calls Try.prog 59 #[aggV c s mn mx, aggV 1 v v v] w fun e w' => ∃ g, e = .returned (.tuple #[aggV 0 0 0 0, .iface 161 (.pointer (some ⟨g, 0, none⟩))]) ∧ IsOver w' g c 1 ∧ Below w.heap.size w w' := by
  have hadd := fun W => aggAdd_bad c 1 W h1 (by unfold is64; omega) hf
  have hc2 : (c == 0) = false := by simpa using hc
  clear hc
  go_enter Try.func59, Try.ntmps59
  go_wp2_with fail
  refine (hadd _).mono ?_
  rintro e w1 ⟨rfl, ho, hb⟩
  simp only [World.size_alloc] at ho hb ⊢
  have hres : w1.heap[w.heap.size + 1 + 1]? = some (.cells #[.int .i64 0, .int .i64 0, .int .i64 0, .int .i64 0] 51 (0, 0)) := (hb.block _ (by omega)).trans (blk_at (by simp))
  have hz1 := hb.size
  simp only [World.size_alloc] at hz1
  have r0 := cell_blk hres 0
  have r1 := cell_blk hres 1
  have r2 := cell_blk hres 2
  have r3 := cell_blk hres 3
  simp at r0 r1 r2 r3
  have rf := frozen_blk hres
  have hbw : Below w.heap.size w w1 := by
    refine Below.trans ?_ (hb.mono (by omega))
    (repeat' (first | exact Below.refl _ _ | assumption | refine Below.drew ?_ | refine Below.setCell ?_ ?_ _ | refine Below.alloc ?_ ?_ _ | (simp; done) | (simp; omega) | omega))
  have HRES := Lib.hid hres
  have HO := Lib.hid ho
  have HBW := Lib.hid hbw
  clear hres ho hb hbw
  go_wp2_with fail
  refine bodyPost_ret (results_cell_tmp rfl _ _ (w.heap.size + 1 + 1) 51 #[.int .i64 0, .int .i64 0, .int .i64 0, .int .i64 0] (0, 0) _ rfl ?_ Try.underlying51 rfl (by kernel_rfl)) rfl ?_
  · exact set_blk (set_blk (set_blk (set_blk HRES.out 0 _) 1 _) 2 _) 3 _
  · refine ⟨_, rfl, ?_, ?_⟩
    · unfold IsOver
      rw [blk_setCell_other, blk_setCell_other, blk_setCell_other, blk_setCell_other]
      · exact HO.out
      all_goals (simp)
    · have hbw := HBW.out
      (repeat' (first | exact Below.refl _ _ | assumption | refine Below.drew ?_ | refine Below.setCell ?_ ?_ _ | refine Below.alloc ?_ ?_ _ | (simp; done) | (simp; omega) | omega))

set_option maxHeartbeats 2000000 in
theorem merge_bad2 (c s mn mx v : Int) (w : World) (hc : ¬ c = 0) (h1 : is64 c) (h2 : is64 s) (h3 : is64 v) (hf : fits c 1 = true) (hf2 : ¬ fits s v = true) :
    Calls Try.prog 59 #[aggV c s mn mx, aggV 1 v v v] w fun e w' => ∃ g, e = .returned (.tuple #[aggV 0 0 0 0, .iface 161 (.pointer (some ⟨g, 0, none⟩))]) ∧ IsOver w' g s v ∧ Below w.heap.size w w' := by
  have hadd := fun W => aggAdd_ok c 1 W h1 (by unfold is64; omega) hf
  have hadd2 := fun W => aggAdd_bad s v W h2 h3 hf2
  have hc2 : (c == 0) = false := by simpa using hc
  clear hc
  go_enter Try.func59, Try.ntmps59
  go_wp2_with fail
  refine (hadd _).mono ?_
  rintro e w0 ⟨rfl, rfl⟩
  go_wp2_with fail
  refine (hadd2 _).mono ?_
  rintro e w1 ⟨rfl, ho, hb⟩
  simp only [World.size_alloc] at ho hb ⊢
  have hres : w1.heap[w.heap.size + 1 + 1]? = some (.cells #[.int .i64 0, .int .i64 0, .int .i64 0, .int .i64 0] 51 (0, 0)) := (hb.block _ (by omega)).trans (blk_at (by simp))
  have hz1 := hb.size
  simp only [World.size_alloc] at hz1
  have r0 := cell_blk hres 0
  have r1 := cell_blk hres 1
  have r2 := cell_blk hres 2
  have r3 := cell_blk hres 3
  simp at r0 r1 r2 r3
  have rf := frozen_blk hres
  have hbw : Below w.heap.size w w1 := by
    refine Below.trans ?_ (hb.mono (by omega))
    (repeat' (first | exact Below.refl _ _ | assumption | refine Below.drew ?_ | refine Below.setCell ?_ ?_ _ | refine Below.alloc ?_ ?_ _ | (simp; done) | (simp; omega) | omega))
  have HRES := Lib.hid hres
  have HO := Lib.hid ho
  have HBW := Lib.hid hbw
  clear hres ho hb hbw
  go_wp2_with fail
  refine bodyPost_ret (results_cell_tmp rfl _ _ (w.heap.size + 1 + 1) 51 #[.int .i64 0, .int .i64 0, .int .i64 0, .int .i64 0] (0, 0) _ rfl ?_ Try.underlying51 rfl (by kernel_rfl)) rfl ?_
  · exact set_blk (set_blk (set_blk (set_blk HRES.out 0 _) 1 _) 2 _) 3 _
  · refine ⟨_, rfl, ?_, ?_⟩
    · unfold IsOver
      rw [blk_setCell_other, blk_setCell_other, blk_setCell_other, blk_setCell_other]
      · exact HO.out
      all_goals (simp)
    · have hbw := HBW.out
      (repeat' (first | exact Below.refl _ _ | assumption | refine Below.drew ?_ | refine Below.setCell ?_ ?_ _ | refine Below.alloc ?_ ?_ _ | (simp; done) | (simp; omega) | omega))

set_option maxHeartbeats 2000000 in
theorem merge_ok (c s mn mx v : Int) (w : World) (hc : ¬ c = 0) (h1 : is64 c) (h2 : is64 s) (h3 : is64 v) (hf : fits c 1 = true) (hf2 : fits s v = true) :
    Calls Try.prog 59 #[aggV c s mn mx, aggV 1 v v v] w fun e w' => e = .returned (.tuple #[aggV (c + 1) (s + v) (min mn v) (max mx v), .nilIface]) ∧ Below w.heap.size w w' := by
  have hadd := fun W => aggAdd_ok c 1 W h1 (by unfold is64; omega) hf
  have hadd2 := fun W => aggAdd_ok s v W h2 h3 hf2
  have hc2 : (c == 0) = false := by simpa using hc
  clear hc
  go_enter Try.func59, Try.ntmps59
  go_wp2_with fail
  refine (hadd _).mono ?_
  rintro e w1 ⟨rfl, rfl⟩
  go_wp2_with fail
  refine (hadd2 _).mono ?_
  rintro e w1 ⟨rfl, rfl⟩
  go_wp2_with fail
  all_goals refine bodyPost_ret (results_cell_tmp rfl _ _ (w.heap.size + 1 + 1) 51 #[.int .i64 (c + 1), .int .i64 (s + v), .int .i64 (min mn v), .int .i64 (max mx v)] (0, 0) _ rfl ?_ Try.underlying51 rfl (by kernel_rfl)) rfl ?_
  all_goals first
    | exact ⟨rfl, by (repeat' (first | exact Below.refl _ _ | refine Below.drew ?_ | refine Below.setCell ?_ ?_ _ | refine Below.alloc ?_ ?_ _ | (simp; done) | (simp; omega) | omega))⟩
    | (refine (blk_at (by simp)).trans ?_; simp; omega)
end Go.Proofs.Ytaicecnfodhlcaa
