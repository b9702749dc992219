/- The contracts of the laws' has and rises. -/
import Derived.Test.YtheimbhnckaonaaTrio
set_option linter.unusedVariables false
set_option linter.unusedSimpArgs false
namespace Go.Proofs.Ytheimbhnckaonaa
open Go.RowKit

theorem below_sortgrow (w : World) (os : Array Obj) : Below w.heap.size w (Sort.grow w os) :=
  ⟨rfl, rfl, rfl, by simp [Sort.grow], fun k hk => by simp [Sort.grow, Array.getElem?_append_left hk]⟩

set_option maxHeartbeats 1000000 in
theorem has_any (a : Option Addr) (cap : Nat) (xs : List Cell) (c1 : Int) (c2 : ByteArray) (c3 : Int) (w : World) (hs : Sl 3 cellL w a xs) (hl : xs.length ≤ 1000000000) :
    Calls Try.prog 28 #[.slice a xs.length cap, .agg #[.int .i64 c1, .string c2, .int .i64 c3]] w fun e w' => e = .returned (.bool (decide ((⟨c1, c2, c3⟩ : Cell) ∈ xs))) ∧ Below w.heap.size w w' := by
  have hbw : Below w.heap.size w (w.alloc (.cells #[.int .i64 c1, .string c2, .int .i64 c3] 51)) := (Below.refl _ _).alloc (Nat.le_refl _) _
  go_enter Try.func28, Try.ntmps28
  go_wp2_with fail
  go_loopg [5] xs.length (fun g i wr => ∃ j : Nat, j + g = xs.length ∧ i = .int .i64 j ∧ (∀ i (h1 : i < xs.length), i < j → xs[i] ≠ ⟨c1, c2, c3⟩) ∧ Below (w.heap.size + 1) (w.alloc (.cells #[.int .i64 c1, .string c2, .int .i64 c3] 51)) wr)
  case atStart => exact ⟨0, by omega, rfl, fun i _ h => absurd h (Nat.not_lt_zero _), Below.refl _ _⟩
  case round =>
    obtain ⟨j, hj, rfl, hall, hb⟩ := hrel
    have Hj := Lib.hid hj
    have Hall := Lib.hid hall
    clear hj hall
    have hbb : Below w.heap.size w wr := hbw.trans (hb.mono (by omega))
    have f0 : wr.cell? ⟨w.heap.size, 0, none⟩ = some (.int .i64 c1) := by rw [hb.cell (by show w.heap.size < _; omega)]; go_simp
    have f1 : wr.cell? ⟨w.heap.size, 1, none⟩ = some (.string c2) := by rw [hb.cell (by show w.heap.size < _; omega)]; go_simp
    have f2 : wr.cell? ⟨w.heap.size, 2, none⟩ = some (.int .i64 c3) := by rw [hb.cell (by show w.heap.size < _; omega)]; go_simp
    by_cases hlt : j < xs.length
    · obtain ⟨xb, xo, rfl, hxb, x0, x1, x2⟩ := hs.at3 hlt rfl
      have d0 := (hbb.cell (p := ⟨xb, _, none⟩) hxb).trans x0
      have d1 := (hbb.cell (p := ⟨xb, _, none⟩) hxb).trans x1
      have d2 := (hbb.cell (p := ⟨xb, _, none⟩) hxb).trans x2
      have heq := fun W => run_eql_cell xs[j].v xs[j].k xs[j].s c1 c2 c3 W
      rw [show (⟨xs[j].v, xs[j].k, xs[j].s⟩ : Cell) = xs[j] from rfl] at heq
      clear x0 x1 x2
      by_cases hq : xs[j] = ⟨c1, c2, c3⟩
      · rw [decide_eq_true hq] at heq
        have hfin : decide ((⟨c1, c2, c3⟩ : Cell) ∈ xs) = true := decide_eq_true (hq ▸ List.getElem_mem hlt)
        have Hfin := Lib.hid hfin
        clear hq hfin
        generalize xs[j].v = p1 at *
        generalize xs[j].k = p2 at *
        generalize xs[j].s = p3 at *
        go_wp2_with fail
        go_quiet (fail)
        go_wp2_with fail
        go_ret
        exact ⟨by rw [Hfin.out]; rfl, Below.drewN hbb _⟩
      · rw [decide_eq_false hq] at heq
        have Hq := Lib.hid hq
        clear hq
        generalize xs[j].v = p1 at *
        generalize xs[j].k = p2 at *
        generalize xs[j].s = p3 at *
        go_wp2_with fail
        go_quiet (fail)
        go_wp2_with fail
        go_roundg (gk - 1)
        case measure => have := Hj.out; omega
        case rel =>
          refine ⟨j + 1, by have := Hj.out; omega, by go_num, fun i h1 hij => ?_, Below.drewN hb _⟩
          by_cases e : i = j
          · subst e; exact Hq.out
          · exact Hall.out i h1 (by omega)
    · have hfin : decide ((⟨c1, c2, c3⟩ : Cell) ∈ xs) = false := by
        rw [decide_eq_false_iff_not]
        intro hm
        obtain ⟨i, hi, e⟩ := List.getElem_of_mem hm
        exact Hall.out i hi (by have := Hj.out; omega) e
      have Hfin := Lib.hid hfin
      clear hfin
      go_wp2_with fail
      go_ret
      exact ⟨by rw [Hfin.out]; rfl, hbb⟩

theorem rise_at {xs : List Cell} (h : Rise xs) {j : Nat} (hj : j + 1 < xs.length) : ccmp (xs[j]'(by omega)) xs[j + 1] < 0 := List.pairwise_iff_getElem.1 h j (j + 1) (by omega) hj (by omega)

theorem compare_below (x y : Cell) (w : World) : Calls Try.prog 35 #[.agg #[.int .i64 x.v, .string x.k, .int .i64 x.s], .agg #[.int .i64 y.v, .string y.k, .int .i64 y.s]] w fun e w' => e = .returned (.int .i64 (ccmp x y)) ∧ Below w.heap.size w w' := by
  refine (compare_any x.v x.k x.s y.v y.k y.s w).mono ?_
  rintro e w' ⟨h, q, os', rfl⟩
  exact ⟨h, (Below.drewN (Below.refl _ _) q).trans (below_sortgrow (w.drewN q) os')⟩

set_option maxHeartbeats 1000000 in
theorem rises_any (a : Option Addr) (cap : Nat) (xs : List Cell) (w : World) (hs : Sl 3 cellL w a xs) (hl : xs.length ≤ 1000000000) (hr : Rise xs) :
    Calls Try.prog 26 #[.slice a xs.length cap] w fun e w' => e = .returned (.bool true) ∧ Below w.heap.size w w' := by
  have HR := Lib.hid hr
  clear hr
  go_enter Try.func26, Try.ntmps26
  go_wp2_with fail
  go_loopg [3] (xs.length + 1) (fun g i wr => ∃ j m : Nat, j + g = xs.length + 1 ∧ m = j + 1 ∧ i = .int .i64 m ∧ Below w.heap.size w wr)
  case atStart => exact ⟨0, 1, by omega, rfl, rfl, Below.refl _ _⟩
  case round =>
    obtain ⟨j, m, hj, hm, rfl, hb⟩ := hrel
    have Hj := Lib.hid hj
    clear hj
    by_cases hlt : m < xs.length
    · have hlt0 : j < xs.length := by omega
      obtain ⟨xb, xo, rfl, hxb, x0, x1, x2⟩ := hs.at3 hlt0 rfl
      obtain ⟨yb, yo, e, hyb, y0, y1, y2⟩ := hs.at3 hlt rfl
      cases e
      have hcmp := rise_at HR.out (j := j) (by omega)
      have hxe : xs[j + 1]'(by omega) = xs[m] := by congr 1; omega
      rw [hxe] at hcmp
      have hc := fun W => compare_below xs[j] xs[m] W
      generalize ccmp xs[j] xs[m] = cc at *
      have hng : ¬ (0 : Int) ≤ cc := by omega
      have e1 : (m : Int) - 1 = (j : Int) := by omega
      have e2 : IntKind.i64.wrap ((m : Int) - 1) = (j : Int) := by rw [IntKind.wrap_i64]; omega
      have e5 : IntKind.i64.wrap (j : Int) = (j : Int) := by rw [IntKind.wrap_i64]; omega
      have Hm := Lib.hid hm
      clear hxe hm
      have kp : ∀ W, Below w.heap.size w W → (Below w.heap.size w W ∧ W.cell? ⟨xb, xo + j * 3, none⟩ = some (.int .i64 xs[j].v) ∧ W.cell? ⟨xb, xo + j * 3 + 1, none⟩ = some (.string xs[j].k) ∧ W.cell? ⟨xb, xo + j * 3 + 2, none⟩ = some (.int .i64 xs[j].s) ∧ W.cell? ⟨xb, xo + m * 3, none⟩ = some (.int .i64 xs[m].v) ∧ W.cell? ⟨xb, xo + m * 3 + 1, none⟩ = some (.string xs[m].k) ∧ W.cell? ⟨xb, xo + m * 3 + 2, none⟩ = some (.int .i64 xs[m].s)) := by
        intro W hW
        have hk : ∀ off, W.cell? ⟨xb, off, none⟩ = w.cell? ⟨xb, off, none⟩ := fun off => hW.cell (p := ⟨xb, off, none⟩) hxb
        exact ⟨hW, (hk _).trans x0, (hk _).trans x1, (hk _).trans x2, (hk _).trans y0, (hk _).trans y1, (hk _).trans y2⟩
      have kD := kp _ hb.drew
      clear x0 x1 x2 y0 y1 y2
      generalize xs[j].v = p1 at *
      generalize xs[j].k = p2 at *
      generalize xs[j].s = p3 at *
      generalize xs[m].v = q1 at *
      generalize xs[m].k = q2 at *
      generalize xs[m].s = q3 at *
      go_wp2_with fail
      go_region_held3 (fun W => Below w.heap.size w W ∧ W.cell? ⟨xb, xo + j * 3, none⟩ = some (.int .i64 p1) ∧ W.cell? ⟨xb, xo + j * 3 + 1, none⟩ = some (.string p2) ∧ W.cell? ⟨xb, xo + j * 3 + 2, none⟩ = some (.int .i64 p3) ∧ W.cell? ⟨xb, xo + m * 3, none⟩ = some (.int .i64 q1) ∧ W.cell? ⟨xb, xo + m * 3 + 1, none⟩ = some (.string q2) ∧ W.cell? ⟨xb, xo + m * 3 + 2, none⟩ = some (.int .i64 q3)) (first | exact kD | assumption)
        (first | (go_at_call 35; refine (hc _).mono ?_; rintro e w4 ⟨rfl, hb4'⟩; have hb4 := hb.drew.trans (hb4'.mono (show w.heap.size ≤ wr.drew.heap.size from hb.size)); have hk4 := kp _ hb4))
      go_wp2_with fail
      go_roundg (gk - 1)
      case measure => have := Hj.out; omega
      case rel => exact ⟨j + 1, m + 1, by have := Hj.out; omega, by have := Hm.out; omega, by go_num, hb4⟩
    · go_wp2_with fail
      go_ret
      exact ⟨rfl, hb⟩
end Go.Proofs.Ytheimbhnckaonaa
