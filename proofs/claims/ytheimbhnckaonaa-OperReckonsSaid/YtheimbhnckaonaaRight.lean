/- Right where Count >= 2: it answers a bool and turns nothing that was there. -/
import Derived.Test.YtheimbhnckaonaaWideB
import Derived.Test.YtheimbhnckaonaaHeld
import Derived.Deep.RegionHeld3
import Derived.Deep.DeepCutAuto
set_option linter.unusedVariables false
set_option linter.unusedSimpArgs false
namespace Go.Proofs.Ytheimbhnckaonaa
open Go.RowKit Go.Deep

theorem kept_new {W w1 : World} {o : Obj} (h : Below (W.alloc o).heap.size (W.alloc o) w1) : w1.heap[W.heap.size]? = some o := (h.block _ (by simp)).trans (blk_at rfl)
theorem kept_newD {W w1 : World} {o : Obj} (h : Below (W.alloc o).drew.heap.size (W.alloc o).drew w1) : w1.heap[W.heap.size]? = some o := (h.block _ (by show _ < (W.alloc o).heap.size; simp)).trans (blk_at rfl)
theorem kept_old {W w1 : World} {g : Nat} {o : Obj} (h : Below W.heap.size W w1) (hq : W.heap[g]? = some o) : w1.heap[g]? = some o := (h.block _ (lt_of_block hq)).trans hq

theorem s_next {B : Nat} {W0 W w1 : World} {q : Prop} (hS : Below B W0 W ∧ q) (hB : B ≤ W0.heap.size) (hb : Below W.heap.size W w1) : Below B W0 w1 := hS.1.trans (hb.mono (Nat.le_trans hB hS.1.size))
theorem s_alloc {B : Nat} {W0 W : World} {q : Prop} (hS : Below B W0 W ∧ q) (hB : B ≤ W0.heap.size) (o : Obj) : Below B W0 (W.alloc o) := hS.1.alloc (Nat.le_trans hB hS.1.size) o

theorem s_set3 {B : Nat} {W0 W : World} {q : Prop} (hS : Below B W0 W ∧ q) {g : Nat} (hg : B ≤ g) (a b c : Value) : Below B W0 (((W.setCell ⟨g, 0, none⟩ a).setCell ⟨g, 1, none⟩ b).setCell ⟨g, 2, none⟩ c) := ((hS.1.setCell hg a).setCell hg b).setCell hg c

theorem meet_end {K J : Act → World → Prop} {Q : Exit → Act → World → Prop} {a : Act} {w : World} (h : ∀ a' w', Met J a' w' → K a' w') (h2 : J a w) : Exit.then K Q Exit.normal a w := h _ _ (Met.intro h2)

/-- A number of 128 bits in block g. -/
def WideAt (w : World) (g : Nat) : Prop := ∃ n h l, w.heap[g]? = some (.cells #[.bool n, .int .u64 h, .int .u64 l] 112 (0, 0))

theorem wide_new (W : World) (n : Bool) (h l : Int) : WideAt (W.alloc (.cells #[.bool n, .int .u64 h, .int .u64 l] 112)) W.heap.size := ⟨_, _, _, blk_at rfl⟩
theorem wide_set {W : World} {g : Nat} {n0 : Bool} {h0 l0 : Int} (hq : Hid (W.heap[g]? = some (.cells #[.bool n0, .int .u64 h0, .int .u64 l0] 112))) (n : Bool) (h l : Int) :
    WideAt (((W.setCell ⟨g, 0, none⟩ (.bool n)).setCell ⟨g, 1, none⟩ (.int .u64 h)).setCell ⟨g, 2, none⟩ (.int .u64 l)) g := ⟨_, _, _, set_blk (set_blk (set_blk (Hid.out hq) 0 _) 1 _) 2 _⟩

/-- What region 7 leaves. -/
def Cut7 (B : Nat) (W0 : World) (s : Value) (w : World) : Prop := ∃ g, s = .pointer (some ⟨g, 0, none⟩) ∧ WideAt w g ∧ B ≤ g ∧ Below B W0 w

set_option maxRecDepth 100000 in
set_option maxHeartbeats 8000000 in
theorem right_big (c s mn mx : Int) (w : World) (hc : 1 < c) (hm : ¬ mx < mn) : Calls Try.prog 39 #[aggV c s mn mx] w fun e w' => (∃ x : Bool, e = .returned (.bool x)) ∧ Below w.heap.size w w' := by
  have h1 : ¬ c ≤ 0 := by omega
  have h2 : (c == 1) = false := by simp; omega
  have ho := fun a W => one_any a W
  have hp := fun n m a b c d W => plus_any n m a b c d W
  have ht := fun a b W => times_any a b W
  have hl := fun n m a b c d W => less_any n m a b c d W
  have ht := fun a b W => times_any a b W
  have hl := fun n m a b c d W => less_any n m a b c d W
  obtain ⟨W0, hW0⟩ : ∃ W0 : World, W0 = w.alloc (.cells #[.int .i64 c, .int .i64 s, .int .i64 mn, .int .i64 mx] 73) := ⟨_, rfl⟩
  have hbx : Below w.heap.size w W0 := by rw [hW0]; exact (Below.refl _ _).alloc (Nat.le_refl _) _
  have hz0 : w.heap.size + 1 ≤ W0.heap.size := by rw [hW0]; simp
  have kp : ∀ W, Below (w.heap.size + 1) W0 W → (Below (w.heap.size + 1) W0 W ∧ W.cell? ⟨w.heap.size, 0, none⟩ = some (.int .i64 c) ∧ W.cell? ⟨w.heap.size, 1, none⟩ = some (.int .i64 s) ∧ W.cell? ⟨w.heap.size, 2, none⟩ = some (.int .i64 mn) ∧ W.cell? ⟨w.heap.size, 3, none⟩ = some (.int .i64 mx)) := by
    intro W hW
    refine ⟨hW, ?_, ?_, ?_, ?_⟩ <;> (rw [hW.cell (by show w.heap.size < _; omega), hW0]; go_simp)
  go_enter Try.func39, Try.ntmps39
  go_upto_region 7 with fail
  rw [← hW0]
  clear hW0
  go_cut [3] (fun s3 wx => Cut7 (w.heap.size + 1) W0 s3 wx)
  case first =>
    go_region_held3 (fun W => Below (w.heap.size + 1) W0 W ∧ W.cell? ⟨w.heap.size, 0, none⟩ = some (.int .i64 c) ∧ W.cell? ⟨w.heap.size, 1, none⟩ = some (.int .i64 s) ∧ W.cell? ⟨w.heap.size, 2, none⟩ = some (.int .i64 mn) ∧ W.cell? ⟨w.heap.size, 3, none⟩ = some (.int .i64 mx))
      (first | with_reducible assumption | with_reducible exact kp _ (Below.refl _ _) | with_reducible exact kp _ (Below.refl _ _).drew | exact kp _ (s_alloc (by assumption) (by omega) _) | exact kp _ (s_set3 (by assumption) (by omega) _ _ _))
      (first
        | (go_at_call 67; refine (ho _ _).mono ?_; rintro e w1 ⟨n1, x1, y1, rfl, hb1⟩; have hk1 := kp _ (s_next (by assumption) (by omega) hb1); have hz1 := hk1.1.size; (first | (have qb := kept_new hb1; have qf := frozen_blk qb; have q0 := cell_blk qb 0; have q1 := cell_blk qb 1; have q2 := cell_blk qb 2; simp at q0 q1 q2; have Qb := Lib.hid qb; clear qb) | (have qb := kept_newD hb1; have qf := frozen_blk qb; have q0 := cell_blk qb 0; have q1 := cell_blk qb 1; have q2 := cell_blk qb 2; simp at q0 q1 q2; have Qb := Lib.hid qb; clear qb) | (have qb := kept_old hb1 (Hid.out (by assumption)); have qf := frozen_blk qb; have q0 := cell_blk qb 0; have q1 := cell_blk qb 1; have q2 := cell_blk qb 2; simp at q0 q1 q2; have Qb := Lib.hid qb; clear qb) | skip))
        | (go_at_call 66; refine (hp _ _ _ _ _ _ _).mono ?_; rintro e w1 ⟨n1, x1, y1, rfl, hb1⟩; have hk1 := kp _ (s_next (by assumption) (by omega) hb1); have hz1 := hk1.1.size; (first | (have qb := kept_new hb1; have qf := frozen_blk qb; have q0 := cell_blk qb 0; have q1 := cell_blk qb 1; have q2 := cell_blk qb 2; simp at q0 q1 q2; have Qb := Lib.hid qb; clear qb) | (have qb := kept_newD hb1; have qf := frozen_blk qb; have q0 := cell_blk qb 0; have q1 := cell_blk qb 1; have q2 := cell_blk qb 2; simp at q0 q1 q2; have Qb := Lib.hid qb; clear qb) | (have qb := kept_old hb1 (Hid.out (by assumption)); have qf := frozen_blk qb; have q0 := cell_blk qb 0; have q1 := cell_blk qb 1; have q2 := cell_blk qb 2; simp at q0 q1 q2; have Qb := Lib.hid qb; clear qb) | skip)))
    all_goals (
      refine meet_end (by assumption) ?_
      go_step
      (repeat apply Exists.intro)
      refine ⟨?_, rfl⟩
      refine ⟨_, rfl, ?_, ?_, And.left (by assumption)⟩
      · first | with_reducible exact wide_new _ _ _ _ | with_reducible exact wide_set (by assumption) _ _ _
      · omega)
  case rest =>
    obtain ⟨g3, rfl, ⟨n3, h3, l3, hg3⟩, hB3, hb3⟩ := hcut
    have hlt3 := lt_of_block hg3
    have hzc3 := hb3.size
    obtain ⟨W3, hW3⟩ : ∃ W : World, W = wc := ⟨_, rfl⟩
    rw [← hW3] at hg3 hb3 hlt3 hzc3 ⊢
    clear hW3 wc
    have kp3 : ∀ W, Below W3.heap.size W3 W → (Below W3.heap.size W3 W ∧ W.cell? ⟨w.heap.size, 0, none⟩ = some (.int .i64 c) ∧ W.cell? ⟨w.heap.size, 1, none⟩ = some (.int .i64 s) ∧ W.cell? ⟨w.heap.size, 2, none⟩ = some (.int .i64 mn) ∧ W.cell? ⟨w.heap.size, 3, none⟩ = some (.int .i64 mx) ∧ W.cell? ⟨g3, 0, none⟩ = some (.bool n3) ∧ W.cell? ⟨g3, 1, none⟩ = some (.int .u64 h3) ∧ W.cell? ⟨g3, 2, none⟩ = some (.int .u64 l3)) := by
      intro W hW
      obtain ⟨_, b0, b1, b2, b3⟩ := kp W3 hb3
      exact ⟨hW, (hW.cell (p := ⟨w.heap.size, 0, none⟩) (by show w.heap.size < _; omega)).trans b0, (hW.cell (p := ⟨w.heap.size, 1, none⟩) (by show w.heap.size < _; omega)).trans b1, (hW.cell (p := ⟨w.heap.size, 2, none⟩) (by show w.heap.size < _; omega)).trans b2, (hW.cell (p := ⟨w.heap.size, 3, none⟩) (by show w.heap.size < _; omega)).trans b3, (hW.cell (p := ⟨g3, 0, none⟩) (by show g3 < _; omega)).trans (cell_blk hg3 0), (hW.cell (p := ⟨g3, 1, none⟩) (by show g3 < _; omega)).trans (cell_blk hg3 1), (hW.cell (p := ⟨g3, 2, none⟩) (by show g3 < _; omega)).trans (cell_blk hg3 2)⟩
    have Hg3 := Lib.hid hg3
    have Hb3 := Lib.hid (Below.trans hbx (hb3.mono (by omega)))
    clear hg3 hb3 kp hbx
    go_upto_region 8 with fail
    go_cut [4] (fun s4 wx => Cut7 W3.heap.size W3 s4 wx)
    case first =>
      go_region_held3 (fun W => Below W3.heap.size W3 W ∧ W.cell? ⟨w.heap.size, 0, none⟩ = some (.int .i64 c) ∧ W.cell? ⟨w.heap.size, 1, none⟩ = some (.int .i64 s) ∧ W.cell? ⟨w.heap.size, 2, none⟩ = some (.int .i64 mn) ∧ W.cell? ⟨w.heap.size, 3, none⟩ = some (.int .i64 mx) ∧ W.cell? ⟨g3, 0, none⟩ = some (.bool n3) ∧ W.cell? ⟨g3, 1, none⟩ = some (.int .u64 h3) ∧ W.cell? ⟨g3, 2, none⟩ = some (.int .u64 l3))
        (first | with_reducible assumption | with_reducible exact kp3 _ (Below.refl _ _) | with_reducible exact kp3 _ (Below.refl _ _).drew | exact kp3 _ (s_alloc (by assumption) (by omega) _) | exact kp3 _ (s_set3 (by assumption) (by omega) _ _ _))
        (first
          | (go_at_call 68; refine (ht _ _ _).mono ?_; rintro e w1 ⟨n1, x1, y1, rfl, hb1⟩; have hk1 := kp3 _ (s_next (by assumption) (by omega) hb1); have hz1 := hk1.1.size; (first | (have qb := kept_new hb1; have qf := frozen_blk qb; have q0 := cell_blk qb 0; have q1 := cell_blk qb 1; have q2 := cell_blk qb 2; simp at q0 q1 q2; have Qb := Lib.hid qb; clear qb) | (have qb := kept_newD hb1; have qf := frozen_blk qb; have q0 := cell_blk qb 0; have q1 := cell_blk qb 1; have q2 := cell_blk qb 2; simp at q0 q1 q2; have Qb := Lib.hid qb; clear qb) | (have qb := kept_old hb1 (Hid.out (by assumption)); have qf := frozen_blk qb; have q0 := cell_blk qb 0; have q1 := cell_blk qb 1; have q2 := cell_blk qb 2; simp at q0 q1 q2; have Qb := Lib.hid qb; clear qb) | skip))
          | (go_at_call 66; refine (hp _ _ _ _ _ _ _).mono ?_; rintro e w1 ⟨n1, x1, y1, rfl, hb1⟩; have hk1 := kp3 _ (s_next (by assumption) (by omega) hb1); have hz1 := hk1.1.size; (first | (have qb := kept_new hb1; have qf := frozen_blk qb; have q0 := cell_blk qb 0; have q1 := cell_blk qb 1; have q2 := cell_blk qb 2; simp at q0 q1 q2; have Qb := Lib.hid qb; clear qb) | (have qb := kept_newD hb1; have qf := frozen_blk qb; have q0 := cell_blk qb 0; have q1 := cell_blk qb 1; have q2 := cell_blk qb 2; simp at q0 q1 q2; have Qb := Lib.hid qb; clear qb) | (have qb := kept_old hb1 (Hid.out (by assumption)); have qf := frozen_blk qb; have q0 := cell_blk qb 0; have q1 := cell_blk qb 1; have q2 := cell_blk qb 2; simp at q0 q1 q2; have Qb := Lib.hid qb; clear qb) | skip)))
      all_goals (
        refine meet_end (by assumption) ?_
        go_step
        (repeat apply Exists.intro)
        refine ⟨?_, rfl⟩
        refine ⟨_, rfl, ?_, ?_, And.left (by assumption)⟩
        · first | with_reducible exact wide_new _ _ _ _ | with_reducible exact wide_set (by assumption) _ _ _
        · omega)
    case rest =>
      obtain ⟨g4, rfl, ⟨n4, h4, l4, hg4⟩, hB4, hb4⟩ := hcut
      have hlt4 := lt_of_block hg4
      have hzc4 := hb4.size
      obtain ⟨W4, hW4⟩ : ∃ W : World, W = wc := ⟨_, rfl⟩
      rw [← hW4] at hg4 hb4 hlt4 hzc4 ⊢
      clear hW4 wc
      have kp4 : ∀ W, Below W4.heap.size W4 W → (Below W4.heap.size W4 W ∧ W.cell? ⟨w.heap.size, 0, none⟩ = some (.int .i64 c) ∧ W.cell? ⟨w.heap.size, 1, none⟩ = some (.int .i64 s) ∧ W.cell? ⟨w.heap.size, 2, none⟩ = some (.int .i64 mn) ∧ W.cell? ⟨w.heap.size, 3, none⟩ = some (.int .i64 mx) ∧ W.cell? ⟨g3, 0, none⟩ = some (.bool n3) ∧ W.cell? ⟨g3, 1, none⟩ = some (.int .u64 h3) ∧ W.cell? ⟨g3, 2, none⟩ = some (.int .u64 l3) ∧ W.cell? ⟨g4, 0, none⟩ = some (.bool n4) ∧ W.cell? ⟨g4, 1, none⟩ = some (.int .u64 h4) ∧ W.cell? ⟨g4, 2, none⟩ = some (.int .u64 l4)) := by
        intro W hW
        obtain ⟨_, b0, b1, b2, b3, c30, c31, c32⟩ := kp3 W4 hb4
        exact ⟨hW, (hW.cell (p := ⟨w.heap.size, 0, none⟩) (by show w.heap.size < _; omega)).trans b0, (hW.cell (p := ⟨w.heap.size, 1, none⟩) (by show w.heap.size < _; omega)).trans b1, (hW.cell (p := ⟨w.heap.size, 2, none⟩) (by show w.heap.size < _; omega)).trans b2, (hW.cell (p := ⟨w.heap.size, 3, none⟩) (by show w.heap.size < _; omega)).trans b3, (hW.cell (p := ⟨g3, 0, none⟩) (by show g3 < _; omega)).trans c30, (hW.cell (p := ⟨g3, 1, none⟩) (by show g3 < _; omega)).trans c31, (hW.cell (p := ⟨g3, 2, none⟩) (by show g3 < _; omega)).trans c32, (hW.cell (p := ⟨g4, 0, none⟩) (by show g4 < _; omega)).trans (cell_blk hg4 0), (hW.cell (p := ⟨g4, 1, none⟩) (by show g4 < _; omega)).trans (cell_blk hg4 1), (hW.cell (p := ⟨g4, 2, none⟩) (by show g4 < _; omega)).trans (cell_blk hg4 2)⟩
      have Hg4 := Lib.hid hg4
      have Hb4 := Lib.hid (Below.trans Hb3.out (hb4.mono (by omega)))
      clear hg4 hb4 kp3
      go_upto_region 9 with fail
      go_cut [5] (fun s5 wx => Cut7 W4.heap.size W4 s5 wx)
      case first =>
        go_region_held3 (fun W => Below W4.heap.size W4 W ∧ W.cell? ⟨w.heap.size, 0, none⟩ = some (.int .i64 c) ∧ W.cell? ⟨w.heap.size, 1, none⟩ = some (.int .i64 s) ∧ W.cell? ⟨w.heap.size, 2, none⟩ = some (.int .i64 mn) ∧ W.cell? ⟨w.heap.size, 3, none⟩ = some (.int .i64 mx) ∧ W.cell? ⟨g3, 0, none⟩ = some (.bool n3) ∧ W.cell? ⟨g3, 1, none⟩ = some (.int .u64 h3) ∧ W.cell? ⟨g3, 2, none⟩ = some (.int .u64 l3) ∧ W.cell? ⟨g4, 0, none⟩ = some (.bool n4) ∧ W.cell? ⟨g4, 1, none⟩ = some (.int .u64 h4) ∧ W.cell? ⟨g4, 2, none⟩ = some (.int .u64 l4))
          (first | with_reducible assumption | with_reducible exact kp4 _ (Below.refl _ _) | with_reducible exact kp4 _ (Below.refl _ _).drew | exact kp4 _ (s_alloc (by assumption) (by omega) _) | exact kp4 _ (s_set3 (by assumption) (by omega) _ _ _))
          (first
            | (go_at_call 68; refine (ht _ _ _).mono ?_; rintro e w1 ⟨n1, x1, y1, rfl, hb1⟩; have hk1 := kp4 _ (s_next (by assumption) (by omega) hb1); have hz1 := hk1.1.size; (first | (have qb := kept_new hb1; have qf := frozen_blk qb; have q0 := cell_blk qb 0; have q1 := cell_blk qb 1; have q2 := cell_blk qb 2; simp at q0 q1 q2; have Qb := Lib.hid qb; clear qb) | (have qb := kept_newD hb1; have qf := frozen_blk qb; have q0 := cell_blk qb 0; have q1 := cell_blk qb 1; have q2 := cell_blk qb 2; simp at q0 q1 q2; have Qb := Lib.hid qb; clear qb) | (have qb := kept_old hb1 (Hid.out (by assumption)); have qf := frozen_blk qb; have q0 := cell_blk qb 0; have q1 := cell_blk qb 1; have q2 := cell_blk qb 2; simp at q0 q1 q2; have Qb := Lib.hid qb; clear qb) | skip))
            | (go_at_call 66; refine (hp _ _ _ _ _ _ _).mono ?_; rintro e w1 ⟨n1, x1, y1, rfl, hb1⟩; have hk1 := kp4 _ (s_next (by assumption) (by omega) hb1); have hz1 := hk1.1.size; (first | (have qb := kept_new hb1; have qf := frozen_blk qb; have q0 := cell_blk qb 0; have q1 := cell_blk qb 1; have q2 := cell_blk qb 2; simp at q0 q1 q2; have Qb := Lib.hid qb; clear qb) | (have qb := kept_newD hb1; have qf := frozen_blk qb; have q0 := cell_blk qb 0; have q1 := cell_blk qb 1; have q2 := cell_blk qb 2; simp at q0 q1 q2; have Qb := Lib.hid qb; clear qb) | (have qb := kept_old hb1 (Hid.out (by assumption)); have qf := frozen_blk qb; have q0 := cell_blk qb 0; have q1 := cell_blk qb 1; have q2 := cell_blk qb 2; simp at q0 q1 q2; have Qb := Lib.hid qb; clear qb) | skip)))
        all_goals (
          refine meet_end (by assumption) ?_
          go_step
          (repeat apply Exists.intro)
          refine ⟨?_, rfl⟩
          refine ⟨_, rfl, ?_, ?_, And.left (by assumption)⟩
          · first | with_reducible exact wide_new _ _ _ _ | with_reducible exact wide_set (by assumption) _ _ _
          · omega)
      case rest =>
        obtain ⟨g5, rfl, ⟨n5, h5, l5, hg5⟩, hB5, hb5⟩ := hcut
        have hlt5 := lt_of_block hg5
        have hzc5 := hb5.size
        obtain ⟨W5, hW5⟩ : ∃ W : World, W = wc := ⟨_, rfl⟩
        rw [← hW5] at hg5 hb5 hlt5 hzc5 ⊢
        clear hW5 wc
        have kp5 : ∀ W, Below W5.heap.size W5 W → (Below W5.heap.size W5 W ∧ W.cell? ⟨w.heap.size, 0, none⟩ = some (.int .i64 c) ∧ W.cell? ⟨w.heap.size, 1, none⟩ = some (.int .i64 s) ∧ W.cell? ⟨w.heap.size, 2, none⟩ = some (.int .i64 mn) ∧ W.cell? ⟨w.heap.size, 3, none⟩ = some (.int .i64 mx) ∧ W.cell? ⟨g3, 0, none⟩ = some (.bool n3) ∧ W.cell? ⟨g3, 1, none⟩ = some (.int .u64 h3) ∧ W.cell? ⟨g3, 2, none⟩ = some (.int .u64 l3) ∧ W.cell? ⟨g4, 0, none⟩ = some (.bool n4) ∧ W.cell? ⟨g4, 1, none⟩ = some (.int .u64 h4) ∧ W.cell? ⟨g4, 2, none⟩ = some (.int .u64 l4) ∧ W.cell? ⟨g5, 0, none⟩ = some (.bool n5) ∧ W.cell? ⟨g5, 1, none⟩ = some (.int .u64 h5) ∧ W.cell? ⟨g5, 2, none⟩ = some (.int .u64 l5)) := by
          intro W hW
          obtain ⟨_, b0, b1, b2, b3, c30, c31, c32, c40, c41, c42⟩ := kp4 W5 hb5
          exact ⟨hW, (hW.cell (p := ⟨w.heap.size, 0, none⟩) (by show w.heap.size < _; omega)).trans b0, (hW.cell (p := ⟨w.heap.size, 1, none⟩) (by show w.heap.size < _; omega)).trans b1, (hW.cell (p := ⟨w.heap.size, 2, none⟩) (by show w.heap.size < _; omega)).trans b2, (hW.cell (p := ⟨w.heap.size, 3, none⟩) (by show w.heap.size < _; omega)).trans b3, (hW.cell (p := ⟨g3, 0, none⟩) (by show g3 < _; omega)).trans c30, (hW.cell (p := ⟨g3, 1, none⟩) (by show g3 < _; omega)).trans c31, (hW.cell (p := ⟨g3, 2, none⟩) (by show g3 < _; omega)).trans c32, (hW.cell (p := ⟨g4, 0, none⟩) (by show g4 < _; omega)).trans c40, (hW.cell (p := ⟨g4, 1, none⟩) (by show g4 < _; omega)).trans c41, (hW.cell (p := ⟨g4, 2, none⟩) (by show g4 < _; omega)).trans c42, (hW.cell (p := ⟨g5, 0, none⟩) (by show g5 < _; omega)).trans (cell_blk hg5 0), (hW.cell (p := ⟨g5, 1, none⟩) (by show g5 < _; omega)).trans (cell_blk hg5 1), (hW.cell (p := ⟨g5, 2, none⟩) (by show g5 < _; omega)).trans (cell_blk hg5 2)⟩
        have Hg5 := Lib.hid hg5
        have Hb5 := Lib.hid (Below.trans Hb4.out (hb5.mono (by omega)))
        clear hg5 hb5 kp4
        go_wp2_with fail
        refine wp_region_held_drew (S := fun W => Below W5.heap.size W5 W ∧ W.cell? ⟨w.heap.size, 0, none⟩ = some (.int .i64 c) ∧ W.cell? ⟨w.heap.size, 1, none⟩ = some (.int .i64 s) ∧ W.cell? ⟨w.heap.size, 2, none⟩ = some (.int .i64 mn) ∧ W.cell? ⟨w.heap.size, 3, none⟩ = some (.int .i64 mx) ∧ W.cell? ⟨g3, 0, none⟩ = some (.bool n3) ∧ W.cell? ⟨g3, 1, none⟩ = some (.int .u64 h3) ∧ W.cell? ⟨g3, 2, none⟩ = some (.int .u64 l3) ∧ W.cell? ⟨g4, 0, none⟩ = some (.bool n4) ∧ W.cell? ⟨g4, 1, none⟩ = some (.int .u64 h4) ∧ W.cell? ⟨g4, 2, none⟩ = some (.int .u64 l4) ∧ W.cell? ⟨g5, 0, none⟩ = some (.bool n5) ∧ W.cell? ⟨g5, 1, none⟩ = some (.int .u64 h5) ∧ W.cell? ⟨g5, 2, none⟩ = some (.int .u64 l5)) (by kernel_rfl) (kp5 _ (Below.refl _ _).drew) (fun hHeld => ?_)
        refine wpAnyH_takeD (i := 0) (oi := _) (d := 55) (v := ?va0) rfl (by kernel_rfl) (by kernel_rfl) (by kernel_rfl) (by kernel_rfl) (fun _ _ _ h => h) (Or.inl ⟨by kernel_rfl, ?ya0⟩) (by assumption) ?ra0
        case ya0 =>
          intro w' hSw
          try dsimp only at hSw
          go_simp
          try with_reducible rfl
        try simp only [Act.put, List.setIfInBounds_toArray, List.set_cons_zero, List.set_cons_succ]
        refine wpAnyH_takeD (i := 1) (oi := _) (d := 56) (v := ?va1) rfl (by kernel_rfl) (by kernel_rfl) (by kernel_rfl) (by kernel_rfl) (fun _ _ _ h => h) (Or.inl ⟨by kernel_rfl, ?ya1⟩) (by assumption) ?ra1
        case ya1 =>
          intro w' hSw
          try dsimp only at hSw
          go_simp
          try with_reducible rfl
        try simp only [Act.put, List.setIfInBounds_toArray, List.set_cons_zero, List.set_cons_succ]
        refine wpAnyH_takeD (i := 2) (oi := _) (d := 57) (v := ?va2) rfl (by kernel_rfl) (by kernel_rfl) (by kernel_rfl) (by kernel_rfl) (fun _ _ _ h => h) (Or.inl ⟨by kernel_rfl, ?ya2⟩) (by assumption) ?ra2
        case ya2 =>
          intro w' hSw
          try dsimp only at hSw
          go_simp
          try with_reducible rfl
        try simp only [Act.put, List.setIfInBounds_toArray, List.set_cons_zero, List.set_cons_succ]
        refine wpAnyH_ready (rs := [3]) (by kernel_rfl) (by simp) ?_
        refine AllReadyH.cons (o := _) rfl (fun K hK => ?_) AllReadyH.nil
        go_simp
        go_at_call 67
        refine (ho _ _).mono ?_
        rintro e wa ⟨ma, xa, ya, rfl, hba⟩
        have hka := kp5 _ (Below.trans (Below.refl _ _).drew (hba.mono (Nat.le_refl _)))
        refine hK.out _ _ hka (fun _ => ?_)
        clear hK K
        try simp only [Act.put, List.setIfInBounds_toArray, List.set_cons_zero, List.set_cons_succ]
        refine wpAnyH_ready (rs := [4]) (by kernel_rfl) (by simp) ?_
        refine AllReadyH.cons (o := _) rfl (fun K hK => ?_) AllReadyH.nil
        go_simp
        go_at_call 69
        refine (hl _ _ _ _ _ _ _).mono ?_
        rintro e wb ⟨q, rfl, hbb⟩
        have hkb := kp5 _ (s_next hka (Nat.le_refl _) hbb)
        refine hK.out _ _ hkb (fun _ => ?_)
        clear hK K
        try simp only [Act.put, List.setIfInBounds_toArray, List.set_cons_zero, List.set_cons_succ]
        cases q
        case true =>
          refine wpAnyH_takeD (i := 5) (oi := _) (d := 60) (v := ?vt5) rfl (by kernel_rfl) (by kernel_rfl) (by kernel_rfl) (by kernel_rfl) (fun _ _ _ h => h) (Or.inl ⟨by kernel_rfl, ?yt5⟩) (by assumption) ?rt5
          case yt5 =>
            intro w' hSw
            try dsimp only at hSw
            go_simp
            try with_reducible rfl
          try simp only [Act.put, List.setIfInBounds_toArray, List.set_cons_zero, List.set_cons_succ]
          refine wpAnyH_takeD (i := 6) (oi := _) (d := 61) (v := ?vt6) rfl (by kernel_rfl) (by kernel_rfl) (by kernel_rfl) (by kernel_rfl) (fun _ _ _ h => h) (Or.inl ⟨by kernel_rfl, ?yt6⟩) (by assumption) ?rt6
          case yt6 =>
            intro w' hSw
            try dsimp only at hSw
            go_simp
            try with_reducible rfl
          try simp only [Act.put, List.setIfInBounds_toArray, List.set_cons_zero, List.set_cons_succ]
          refine wpAnyH_takeD (i := 7) (oi := _) (d := 62) (v := ?vt7) rfl (by kernel_rfl) (by kernel_rfl) (by kernel_rfl) (by kernel_rfl) (fun _ _ _ h => h) (Or.inl ⟨by kernel_rfl, ?yt7⟩) (by assumption) ?rt7
          case yt7 =>
            intro w' hSw
            try dsimp only at hSw
            go_simp
            try with_reducible rfl
          try simp only [Act.put, List.setIfInBounds_toArray, List.set_cons_zero, List.set_cons_succ]
          refine wpAnyH_takeD (i := 9) (oi := _) (d := 64) (v := ?vt9) rfl (by kernel_rfl) (by kernel_rfl) (by kernel_rfl) (by kernel_rfl) (fun _ _ _ h => h) (Or.inl ⟨by kernel_rfl, ?yt9⟩) (by assumption) ?rt9
          case yt9 =>
            intro w' hSw
            try dsimp only at hSw
            go_simp
            try with_reducible rfl
          try simp only [Act.put, List.setIfInBounds_toArray, List.set_cons_zero, List.set_cons_succ]
          refine wpAnyH_ready (rs := [8]) (by kernel_rfl) (by simp) ?_
          refine AllReadyH.cons (o := _) rfl (fun K hK => ?_) AllReadyH.nil
          go_simp
          go_at_call 67
          refine (ho _ _).mono ?_
          rintro e wc ⟨mc, xc, yc, rfl, hbc⟩
          have hkc := kp5 _ (s_next hkb (Nat.le_refl _) hbc)
          refine hK.out _ _ hkc (fun _ => ?_)
          clear hK K
          try simp only [Act.put, List.setIfInBounds_toArray, List.set_cons_zero, List.set_cons_succ]
          refine wpAnyH_ready (rs := [10]) (by kernel_rfl) (by simp) ?_
          refine AllReadyH.cons (o := _) rfl (fun K hK => ?_) AllReadyH.nil
          go_simp
          go_at_call 69
          refine (hl _ _ _ _ _ _ _).mono ?_
          rintro e wd ⟨q, rfl, hbd⟩
          have hkd := kp5 _ (s_next hkc (Nat.le_refl _) hbd)
          refine hK.out _ _ hkd (fun _ => ?_)
          clear hK K
          try simp only [Act.put, List.setIfInBounds_toArray, List.set_cons_zero, List.set_cons_succ]
          refine wpAnyH_takeD (i := 11) (oi := _) (d := 66) (v := ?vt11) rfl (by kernel_rfl) (by kernel_rfl) (by kernel_rfl) (by kernel_rfl) (fun _ _ _ h => h) (Or.inl ⟨by kernel_rfl, ?yt11⟩) (by assumption) ?rt11
          case yt11 =>
            intro w' hSw
            try dsimp only at hSw
            go_simp
            try with_reducible rfl
          try simp only [Act.put, List.setIfInBounds_toArray, List.set_cons_zero, List.set_cons_succ]
          refine wpAnyH_takeD (i := 12) (oi := _) (d := 2) (v := ?vt12) rfl (by kernel_rfl) (by kernel_rfl) (by kernel_rfl) (by kernel_rfl) (fun _ _ _ h => h) (Or.inl ⟨by kernel_rfl, ?yt12⟩) (by assumption) ?rt12
          case yt12 =>
            intro w' hSw
            try dsimp only at hSw
            go_simp
            try with_reducible rfl
          try simp only [Act.put, List.setIfInBounds_toArray, List.set_cons_zero, List.set_cons_succ]
          refine wpAnyH_done (by kernel_rfl) ?_ _
          go_wp2_with fail
          go_ret
          exact ⟨⟨_, rfl⟩, Below.trans Hb5.out (Below.mono (And.left (by assumption)) (by omega))⟩
        case false =>
          refine wpAnyH_takeD (i := 5) (oi := _) (d := 60) (v := ?vf5) rfl (by kernel_rfl) (by kernel_rfl) (by kernel_rfl) (by kernel_rfl) (fun _ _ _ h => h) (Or.inl ⟨by kernel_rfl, ?yf5⟩) (by assumption) ?rf5
          case yf5 =>
            intro w' hSw
            try dsimp only at hSw
            go_simp
            try with_reducible rfl
          try simp only [Act.put, List.setIfInBounds_toArray, List.set_cons_zero, List.set_cons_succ]
          refine wpAnyH_takeD (i := 6) (oi := _) (d := 61) (v := undef) rfl (by kernel_rfl) (by kernel_rfl) (by kernel_rfl) (by kernel_rfl) (fun _ _ _ h => h) (Or.inr ⟨by kernel_rfl, rfl⟩) (by assumption) ?_
          try simp only [Act.put, List.setIfInBounds_toArray, List.set_cons_zero, List.set_cons_succ]
          refine wpAnyH_takeD (i := 7) (oi := _) (d := 62) (v := undef) rfl (by kernel_rfl) (by kernel_rfl) (by kernel_rfl) (by kernel_rfl) (fun _ _ _ h => h) (Or.inr ⟨by kernel_rfl, rfl⟩) (by assumption) ?_
          try simp only [Act.put, List.setIfInBounds_toArray, List.set_cons_zero, List.set_cons_succ]
          refine wpAnyH_takeD (i := 8) (oi := _) (d := 63) (v := undef) rfl (by kernel_rfl) (by kernel_rfl) (by kernel_rfl) (by kernel_rfl) (fun _ _ _ h => h) (Or.inr ⟨by kernel_rfl, rfl⟩) (by assumption) ?_
          try simp only [Act.put, List.setIfInBounds_toArray, List.set_cons_zero, List.set_cons_succ]
          refine wpAnyH_takeD (i := 9) (oi := _) (d := 64) (v := undef) rfl (by kernel_rfl) (by kernel_rfl) (by kernel_rfl) (by kernel_rfl) (fun _ _ _ h => h) (Or.inr ⟨by kernel_rfl, rfl⟩) (by assumption) ?_
          try simp only [Act.put, List.setIfInBounds_toArray, List.set_cons_zero, List.set_cons_succ]
          refine wpAnyH_takeD (i := 10) (oi := _) (d := 65) (v := undef) rfl (by kernel_rfl) (by kernel_rfl) (by kernel_rfl) (by kernel_rfl) (fun _ _ _ h => h) (Or.inr ⟨by kernel_rfl, rfl⟩) (by assumption) ?_
          try simp only [Act.put, List.setIfInBounds_toArray, List.set_cons_zero, List.set_cons_succ]
          refine wpAnyH_takeD (i := 11) (oi := _) (d := 66) (v := ?vf11) rfl (by kernel_rfl) (by kernel_rfl) (by kernel_rfl) (by kernel_rfl) (fun _ _ _ h => h) (Or.inl ⟨by kernel_rfl, ?yf11⟩) (by assumption) ?rf11
          case yf11 =>
            intro w' hSw
            try dsimp only at hSw
            go_simp
            try with_reducible rfl
          try simp only [Act.put, List.setIfInBounds_toArray, List.set_cons_zero, List.set_cons_succ]
          refine wpAnyH_takeD (i := 12) (oi := _) (d := 2) (v := ?vf12) rfl (by kernel_rfl) (by kernel_rfl) (by kernel_rfl) (by kernel_rfl) (fun _ _ _ h => h) (Or.inl ⟨by kernel_rfl, ?yf12⟩) (by assumption) ?rf12
          case yf12 =>
            intro w' hSw
            try dsimp only at hSw
            go_simp
            try with_reducible rfl
          try simp only [Act.put, List.setIfInBounds_toArray, List.set_cons_zero, List.set_cons_succ]
          refine wpAnyH_done (by kernel_rfl) ?_ _
          go_wp2_with fail
          go_ret
          exact ⟨⟨_, rfl⟩, Below.trans Hb5.out (Below.mono (And.left (by assumption)) (by omega))⟩

end Go.Proofs.Ytheimbhnckaonaa
