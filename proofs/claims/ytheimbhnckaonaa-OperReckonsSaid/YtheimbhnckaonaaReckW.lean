/- The walk of the law OperReckons. -/
import Derived.Test.YtheimbhnckaonaaRight
import Derived.Test.YtheimbhnckaonaaAggE
import Derived.Test.YtheimbhnckaonaaIs
import Derived.Test.YtheimbhnckaonaaKnown
set_option linter.unusedVariables false
set_option linter.unusedSimpArgs false
namespace Go.Proofs.Ytheimbhnckaonaa
open Go.RowKit

theorem right_any (c s mn mx : Int) (w : World) : Calls Try.prog 39 #[aggV c s mn mx] w fun e w' => (∃ x : Bool, e = .returned (.bool x)) ∧ Below w.heap.size w w' := by
  by_cases h0 : c ≤ 0
  · exact (right_low c s mn mx w h0).mono fun e w' h => ⟨⟨_, h.1⟩, h.2⟩
  · by_cases h1 : c = 1
    · subst h1; exact right_one s mn mx w
    · by_cases h2 : mx < mn
      · exact (right_crossed c s mn mx w (by omega) h2).mono fun e w' h => ⟨⟨_, h.1⟩, h.2⟩
      · exact right_big c s mn mx w (by omega) h2

/-- An aggregate in block g. -/
def AggAt (w : World) (g : Nat) (c s mn mx : Int) : Prop := w.heap[g]? = some (.cells #[.int .i64 c, .int .i64 s, .int .i64 mn, .int .i64 mx] 73 (0, 0))
theorem AggAt.below {w w' : World} {g : Nat} {c s mn mx : Int} (h : AggAt w g c s mn mx) (k : Below w.heap.size w w') : AggAt w' g c s mn mx := (k.block _ (lt_of_block h)).trans h
theorem AggAt.cells {w : World} {g : Nat} {c s mn mx : Int} (h : AggAt w g c s mn mx) : w.cell? ⟨g, 0, none⟩ = some (.int .i64 c) ∧ w.cell? ⟨g, 1, none⟩ = some (.int .i64 s) ∧ w.cell? ⟨g, 2, none⟩ = some (.int .i64 mn) ∧ w.cell? ⟨g, 3, none⟩ = some (.int .i64 mx) := by
  unfold AggAt at h
  simp [World.cell?, h]
theorem AggAt.alloc {w : World} {g : Nat} {c s mn mx : Int} (h : AggAt w g c s mn mx) (o : Obj) : AggAt (w.alloc o) g c s mn mx := (blk_old (lt_of_block h)).trans h
theorem AggAt.new (w : World) (c s mn mx : Int) : AggAt (w.alloc (.cells #[.int .i64 c, .int .i64 s, .int .i64 mn, .int .i64 mx] 73)) w.heap.size c s mn mx := blk_at rfl

set_option maxRecDepth 100000 in
set_option maxHeartbeats 4000000 in
theorem reckons_ok (y1 y2 y3 y4 c s mn mx v : Int) (w : World) (hrk : ∀ o W, Calls Try.prog 40 #[.pointer o, aggV c s mn mx, .int .i64 v] W fun e w' => e = .returned (.tuple #[aggV y1 y2 y3 y4, .nilIface]) ∧ Below W.heap.size W w')
    (hpt : ∀ W, Calls Try.prog 41 #[aggV c s mn mx, .int .i64 v] W fun e w' => e = .returned (.tuple #[aggV y1 y2 y3 y4, badV false 0 0]) ∧ Below W.heap.size W w') :
    Calls Try.prog 13 #[aggV c s mn mx, .int .i64 v] w fun e w' => e = .returned (.bool true) ∧ Below w.heap.size w w' := by
  have hkn := fun W => known_any W
  have hri := fun W => right_any c s mn mx W
  have hnew := fun a W hs => new_ok a 1 [⟨1, 1, 0⟩] 1 W hs (by decide) (by decide) (by decide) (by decide) (by decide)
  have hba0 : Below w.heap.size w (w.alloc (.cells #[.int .i64 c, .int .i64 s, .int .i64 mn, .int .i64 mx] 73)) := (Below.refl _ _).alloc (Nat.le_refl _) _
  have hag0 := AggAt.new w c s mn mx
  go_enter Try.func13, Try.ntmps13
  go_wp2_with fail
  refine (hkn _).mono ?_
  rintro e w1 ⟨rfl, hb1⟩
  have hag1 := hag0.below hb1
  have hba1 := Below.pure hba0 hb1 (by simp)
  obtain ⟨a0, a1, a2, a3⟩ := hag1.cells
  clear hag0 hba0 hb1
  go_wp2_with fail
  refine (hri _).mono ?_
  rintro e w2 ⟨⟨x, rfl⟩, hb2⟩
  have hag2 := hag1.below hb2
  have hba2 := Below.pure hba1 hb2 hba1.size
  obtain ⟨a0, a1, a2, a3⟩ := hag2.cells
  clear hag1 hba1 hb2
  cases x
  · go_wp2_with fail
    refine (hkn _).mono ?_
    rintro e w3 ⟨rfl, hb3⟩
    go_wp2_with fail
    go_ret
    exact ⟨rfl, Below.pure hba2 hb3 hba2.size⟩
  · go_wp2_with fail
    refine (hnew _ _ ?_).mono ?_
    · have h := sl_new (sz := 3) (enc := viewL) (⟨1, 1, 0⟩ : View) w2 49 (cs := #[.int .i64 1, .int .i64 1, .int .i64 0]) rfl
      simpa using h
    rintro e w3 ⟨b, rfl, hO, hb3, hbs⟩
    have hba3 := Below.pure (Below.alloc hba2 hba2.size _) hb3 (by have := hba2.size; simp; omega)
    have hag3 := (hag2.alloc _).below hb3
    obtain ⟨a0, a1, a2, a3⟩ := hag3.cells
    clear hag2 hba2 hb3 hO hbs
    go_wp2_with fail
    refine (hrk _ _).mono ?_
    rintro e w4 ⟨rfl, hb4⟩
    have hag4 := hag3.below hb4
    have hba4 := Below.pure hba3 hb4 hba3.size
    obtain ⟨a0, a1, a2, a3⟩ := hag4.cells
    have hlt4 := lt_of_block hag4
    clear hag3 hba3 hb4
    go_wp2_with fail
    refine (hpt _).mono ?_
    rintro e w5 ⟨rfl, hb5⟩
    have hag5 := (AggAt.new w4 y1 y2 y3 y4).below hb5
    have hba5 := Below.pure (Below.alloc hba4 hba4.size _) hb5 (by have := hba4.size; simp; omega)
    obtain ⟨b0, b1, b2, b3⟩ := hag5.cells
    have hlt5 := lt_of_block hag5
    have heq := fun W => run_eql_agg y1 y2 y3 y4 y1 y2 y3 y4 W
    clear hag4 hba4 hb5
    go_wp2_with fail
    go_ret
    refine ⟨ret_bool (by simp), ?_⟩
    (repeat' (first | exact Below.refl _ _ | assumption | refine Below.drew ?_ | refine Below.setCell ?_ ?_ _ | refine Below.alloc ?_ ?_ _ | (have := hba5.size; simp; omega) | omega))
set_option maxRecDepth 100000 in
set_option maxHeartbeats 4000000 in
theorem reckons_bad (p q p2 q2 c s mn mx v : Int) (w : World) (hrk : ∀ o W, Calls Try.prog 40 #[.pointer o, aggV c s mn mx, .int .i64 v] W fun e w' => ∃ g, e = .returned (.tuple #[aggV 0 0 0 0, .iface 173 (.pointer (some ⟨g, 0, none⟩))]) ∧ IsOver w' g p q ∧ Below W.heap.size W w')
    (hpt : ∀ W, Calls Try.prog 41 #[aggV c s mn mx, .int .i64 v] W fun e w' => e = .returned (.tuple #[aggV 0 0 0 0, badV true p2 q2]) ∧ Below W.heap.size W w') :
    Calls Try.prog 13 #[aggV c s mn mx, .int .i64 v] w fun e w' => e = .returned (.bool true) ∧ Below w.heap.size w w' := by
  have hkn := fun W => known_any W
  have hri := fun W => right_any c s mn mx W
  have hnew := fun a W hs => new_ok a 1 [⟨1, 1, 0⟩] 1 W hs (by decide) (by decide) (by decide) (by decide) (by decide)
  have hba0 : Below w.heap.size w (w.alloc (.cells #[.int .i64 c, .int .i64 s, .int .i64 mn, .int .i64 mx] 73)) := (Below.refl _ _).alloc (Nat.le_refl _) _
  have hag0 := AggAt.new w c s mn mx
  go_enter Try.func13, Try.ntmps13
  go_wp2_with fail
  refine (hkn _).mono ?_
  rintro e w1 ⟨rfl, hb1⟩
  have hag1 := hag0.below hb1
  have hba1 := Below.pure hba0 hb1 (by simp)
  obtain ⟨a0, a1, a2, a3⟩ := hag1.cells
  clear hag0 hba0 hb1
  go_wp2_with fail
  refine (hri _).mono ?_
  rintro e w2 ⟨⟨x, rfl⟩, hb2⟩
  have hag2 := hag1.below hb2
  have hba2 := Below.pure hba1 hb2 hba1.size
  obtain ⟨a0, a1, a2, a3⟩ := hag2.cells
  clear hag1 hba1 hb2
  cases x
  · go_wp2_with fail
    refine (hkn _).mono ?_
    rintro e w3 ⟨rfl, hb3⟩
    go_wp2_with fail
    go_ret
    exact ⟨rfl, Below.pure hba2 hb3 hba2.size⟩
  · go_wp2_with fail
    refine (hnew _ _ ?_).mono ?_
    · have h := sl_new (sz := 3) (enc := viewL) (⟨1, 1, 0⟩ : View) w2 49 (cs := #[.int .i64 1, .int .i64 1, .int .i64 0]) rfl
      simpa using h
    rintro e w3 ⟨b, rfl, hO, hb3, hbs⟩
    have hba3 := Below.pure (Below.alloc hba2 hba2.size _) hb3 (by have := hba2.size; simp; omega)
    have hag3 := (hag2.alloc _).below hb3
    obtain ⟨a0, a1, a2, a3⟩ := hag3.cells
    clear hag2 hba2 hb3 hO hbs
    go_wp2_with fail
    refine (hrk _ _).mono ?_
    rintro e w4 ⟨g, rfl, _, hb4⟩
    have hag4 := hag3.below hb4
    have hba4 := Below.pure hba3 hb4 hba3.size
    obtain ⟨a0, a1, a2, a3⟩ := hag4.cells
    have hlt4 := lt_of_block hag4
    clear hag3 hba3 hb4
    go_wp2_with fail
    refine (hpt _).mono ?_
    rintro e w5 ⟨rfl, hb5⟩
    have hag5 := (AggAt.new w4 0 0 0 0).below hb5
    have hba5 := Below.pure (Below.alloc hba4 hba4.size _) hb5 (by have := hba4.size; simp; omega)
    obtain ⟨b0, b1, b2, b3⟩ := hag5.cells
    have hlt5 := lt_of_block hag5
    have heq := fun W => run_eql_agg 0 0 0 0 0 0 0 0 W
    have his := fun W => is_over g W
    clear hag4 hba4 hb5
    go_wp2_with fail
    refine (his _).mono ?_
    rintro e w6 ⟨rfl, hb6⟩
    have hag6 := ((hag5.alloc _).alloc _).below hb6
    have hba6 := Below.pure (Below.alloc (Below.alloc hba5 hba5.size _) (by have := hba5.size; simp; omega) _) hb6 (by have := hba5.size; simp; omega)
    obtain ⟨c0, c1, c2, c3⟩ := hag6.cells
    clear hag5 hba5 hb6
    go_wp2_with fail
    go_ret
    exact ⟨ret_bool (by simp), hba6⟩

theorem reckons_any (c s mn mx v : Int) (w : World) (h1 : is64 c) (h2 : is64 s) (h3 : is64 mn) (h4 : is64 mx) (h5 : is64 v) :
    Calls Try.prog 13 #[aggV c s mn mx, .int .i64 v] w fun e w' => e = .returned (.bool true) ∧ Below w.heap.size w w' := by
  by_cases hc : c = 0
  · subst hc
    exact reckons_ok 1 v v v 0 s mn mx v w (fun o W => reckon_ok o 1 v v v 0 s mn mx v W fun W => put_ok 1 v v v 0 s mn mx v W fun W => merge_zero s mn mx v W) (fun W => refPut_zero s mn mx v W)
  · by_cases hf : fits c 1 = true
    · by_cases hf2 : fits s v = true
      · exact reckons_ok _ _ _ _ c s mn mx v w (fun o W => reckon_ok o _ _ _ _ c s mn mx v W fun W => put_ok _ _ _ _ c s mn mx v W fun W => merge_ok c s mn mx v W hc h1 h2 h5 hf hf2) (fun W => refPut_ok c s mn mx v W hc h1 h2 h5 hf hf2)
      · exact reckons_bad s v s v c s mn mx v w (fun o W => reckon_bad o c s mn mx v s v W fun W => put_bad c s mn mx v s v W fun W => merge_bad2 c s mn mx v W hc h1 h2 h5 hf hf2) (fun W => refPut_bad2 c s mn mx v W hc h1 h2 h5 hf hf2)
    · exact reckons_bad c 1 c 1 c s mn mx v w (fun o W => reckon_bad o c s mn mx v c 1 W fun W => put_bad c s mn mx v c 1 W fun W => merge_bad1 c s mn mx v W hc h1 hf) (fun W => refPut_bad1 c s mn mx v W hc h1 hf)
end Go.Proofs.Ytheimbhnckaonaa
