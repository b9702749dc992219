/- The contract of SameCells. -/
import Derived.Test.YtheimbhnckaonaaNew
set_option linter.unusedVariables false
set_option linter.unusedSimpArgs false
namespace Go.Proofs.Ytheimbhnckaonaa
open Go.RowKit

theorem list_ext_len {α : Type} {xs ys : List α} (hl : xs.length = ys.length) (h : ∀ i (h1 : i < xs.length) (h2 : i < ys.length), xs[i] = ys[i]) : xs = ys := List.ext_getElem hl h

set_option maxHeartbeats 1000000 in
theorem same_any (a : Option Addr) (ca : Nat) (xs : List Cell) (b : Option Addr) (cb : Nat) (ys : List Cell) (w : World) (hx : Sl 3 cellL w a xs) (hy : Sl 3 cellL w b ys) (hm : xs.length ≤ 4611686018427387904) :
    Calls Try.prog 21 #[.slice a xs.length ca, .slice b ys.length cb] w fun e w' => e = .returned (.bool (decide (xs = ys))) ∧ Below w.heap.size w w' := by
  by_cases hl : xs.length = ys.length
  · have g1 : ((xs.length : Int) != (ys.length : Int)) = false := by simp [hl]
    go_enter Try.func21, Try.ntmps21
    go_wp2_with fail
    go_loopg [5] xs.length (fun g i wr => ∃ j : Nat, j + g = xs.length ∧ i = .int .i64 j ∧ (∀ i (h1 : i < xs.length) (h2 : i < ys.length), i < j → xs[i] = ys[i]) ∧ Below w.heap.size w wr)
    case atStart => exact ⟨0, by omega, rfl, fun i _ _ h => absurd h (Nat.not_lt_zero _), Below.refl _ _⟩
    case round =>
      obtain ⟨j, hj, rfl, hall, hb⟩ := hrel
      have Hj := Lib.hid hj
      have Hall := Lib.hid hall
      have Hl := Lib.hid hl
      clear hj hall
      by_cases hlt : j < xs.length
      · have hlt2 : j < ys.length := by omega
        obtain ⟨xb, xo, rfl, hxb, x0, x1, x2⟩ := hx.at3 hlt rfl
        obtain ⟨yb, yo, rfl, hyb, y0, y1, y2⟩ := hy.at3 hlt2 rfl
        have d0 := (hb.cell (p := ⟨xb, _, none⟩) hxb).trans x0
        have d1 := (hb.cell (p := ⟨xb, _, none⟩) hxb).trans x1
        have d2 := (hb.cell (p := ⟨xb, _, none⟩) hxb).trans x2
        have f0 := (hb.cell (p := ⟨yb, _, none⟩) hyb).trans y0
        have f1 := (hb.cell (p := ⟨yb, _, none⟩) hyb).trans y1
        have f2 := (hb.cell (p := ⟨yb, _, none⟩) hyb).trans y2
        have hne := fun W => run_neq_cell xs[j].v xs[j].k xs[j].s ys[j].v ys[j].k ys[j].s W
        rw [show (⟨xs[j].v, xs[j].k, xs[j].s⟩ : Cell) = xs[j] from rfl, show (⟨ys[j].v, ys[j].k, ys[j].s⟩ : Cell) = ys[j] from rfl] at hne
        clear x0 x1 x2 y0 y1 y2 hl
        by_cases hq : xs[j] = ys[j]
        · rw [decide_eq_true hq] at hne
          have Hq := Lib.hid hq
          clear hq
          generalize xs[j].v = p1 at *
          generalize xs[j].k = p2 at *
          generalize xs[j].s = p3 at *
          generalize ys[j].v = q1 at *
          generalize ys[j].k = q2 at *
          generalize ys[j].s = q3 at *
          go_wp2_with fail
          go_quiet (fail)
          go_wp2_with fail
          go_roundg (gk - 1)
          case measure => have := Hj.out; omega
          case rel =>
            refine ⟨j + 1, by have := Hj.out; omega, by go_num, fun i h1 h2 hij => ?_, Below.drewN hb _⟩
            by_cases e : i = j
            · subst e; exact Hq.out
            · exact Hall.out i h1 h2 (by omega)
        · rw [decide_eq_false hq] at hne
          have hfin : decide (xs = ys) = false := by
            rw [decide_eq_false_iff_not]
            rintro rfl
            exact hq rfl
          have Hfin := Lib.hid hfin
          clear hq hfin
          generalize xs[j].v = p1 at *
          generalize xs[j].k = p2 at *
          generalize xs[j].s = p3 at *
          generalize ys[j].v = q1 at *
          generalize ys[j].k = q2 at *
          generalize ys[j].s = q3 at *
          go_wp2_with fail
          go_quiet (fail)
          go_wp2_with fail
          go_ret
          exact ⟨by rw [Hfin.out]; rfl, Below.drewN hb _⟩
      · have hfin : decide (xs = ys) = true := by
          rw [decide_eq_true_iff]
          exact list_ext_len hl (fun i h1 h2 => Hall.out i h1 h2 (by have := Hj.out; omega))
        have Hfin := Lib.hid hfin
        clear hfin hl
        go_wp2_with fail
        go_ret
        exact ⟨by rw [Hfin.out]; rfl, hb⟩
  · have g1 : ((xs.length : Int) != (ys.length : Int)) = true := by simp; omega
    have hfin : decide (xs = ys) = false := by
      rw [decide_eq_false_iff_not]
      rintro rfl
      exact hl rfl
    rw [hfin]
    clear hfin hl
    go_enter Try.func21, Try.ntmps21
    go_wp2_with fail
    go_ret
    exact ⟨rfl, Below.refl _ _⟩
end Go.Proofs.Ytheimbhnckaonaa
