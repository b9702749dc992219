/- The contract of KeptCells. -/
import Derived.Test.YtheimbhnckaonaaLend
set_option linter.unusedVariables false
set_option linter.unusedSimpArgs false
namespace Go.Proofs.Ytheimbhnckaonaa
open Go.RowKit

def spoiltC : Cell := ⟨0, ⟨#[115, 112, 111, 105, 108, 116]⟩, 0⟩

set_option maxHeartbeats 4000000 in
theorem keptCells_any (B g : Nat) (a : Option Addr) (cap : Nat) (xs : List Cell) (w : World) (hs : Sl 3 cellL w a xs) (hown : Own 51 3 cellL B w (.slice (some ⟨g, 0, none⟩) (xs.length + 3) (xs.length + 3)) (xs ++ List.replicate 3 markC)) (hl : xs.length ≤ 100000000) :
    Calls Try.prog 53 #[.slice (some ⟨g, 0, none⟩) xs.length (xs.length + 3), .slice a xs.length cap] w fun e w' => e = .returned (.bool true) ∧ Chg [g] w w' := by
  have hgl := (hown.ge (g := g) rfl)
  have hsl : Sl 3 cellL w (some ⟨g, 0, none⟩) xs := by
    have h := (hown.sl0 (fun _ => rfl)).take xs.length
    rw [List.take_left] at h
    exact h
  have hsame := same_any (some ⟨g, 0, none⟩) (xs.length + 3) xs a cap xs w hsl hs (by omega)
  rw [decide_eq_true rfl] at hsame
  have Hown := Lib.hid hown
  have hY : (xs ++ List.replicate 3 markC).length = xs.length + 3 := by simp
  have hYm : ∀ j (hj : j < (xs ++ List.replicate 3 markC).length), xs.length ≤ j → (xs ++ List.replicate 3 markC)[j] = markC := by
    intro j hj h
    rw [List.getElem_append_right h, List.getElem_replicate]
  clear hown hsl
  generalize xs ++ List.replicate 3 markC = Y at *
  go_enter Try.func53, Try.ntmps53
  go_wp2_with fail
  refine hsame.mono ?_
  rintro e w1 ⟨rfl, hb1⟩
  have Hown1 := Lib.hid (Hown.out.below hb1)
  have hz1 := hb1.size
  clear hsame
  have hYm' := Lib.hid hYm
  clear hYm
  go_wp2_with fail
  go_loopg [5, 7] (xs.length + 3) (fun q ok i wr => ∃ j : Nat, j + q = xs.length + 3 ∧ ok = .bool true ∧ i = .int .i64 j ∧ Own 51 3 cellL B wr (.slice (some ⟨g, 0, none⟩) (xs.length + 3) (xs.length + 3)) ((Y.take j).map (fun _ => spoiltC) ++ Y.drop j) ∧ Chg [g] w wr)
  case atStart => exact ⟨0, by omega, rfl, rfl, by simpa using Hown1.out, (Chg.of_below hb1).mono (by simp)⟩
  case round =>
    obtain ⟨j, hj, rfl, rfl, hown, hch⟩ := hrel
    have Hj := Lib.hid hj
    have Hch := Lib.hid hch
    have hzr := hch.size
    clear hj hch
    by_cases hlt : j < xs.length + 3
    · have hlj : j < Y.length := by omega
      have hlen : ((Y.take j).map (fun _ => spoiltC) ++ Y.drop j).length = xs.length + 3 := by simp; omega
      have hat := hown.at3 (k := j) (fun _ => rfl) (by omega) rfl
      rw [step_get (fun _ => spoiltC) hlj] at hat
      have Hown := Lib.hid hown
      clear hown
      by_cases hjx : j < xs.length
      · have d0 : decide ((j : Int) < (xs.length : Int)) = true := by simpa using hjx
        go_wp2_with fail
        go_quiet (fail)
        have hown3 := Hown.out.below (Below.drewN (Below.refl _ _) nq)
        obtain ⟨⟨u0, e0⟩, ⟨u1, e1⟩, ⟨u2, e2⟩, f0, f1, f2⟩ := hown3.room3 (k := j) (fun _ => rfl) (by omega)
        have hset := hown3.set3 (k := j) (c := spoiltC) (fun _ => rfl) hlen.symm (by omega) rfl
        rw [step_set (fun _ => spoiltC) hlj] at hset
        have Hset := Lib.hid hset
        clear hset hat hlen Hown
        go_wp2_with fail
        go_roundg (xs.length + 3 - (j + 1))
        case measure => have := Hj.out; omega
        case rel =>
          refine ⟨j + 1, by have := Hj.out; omega, rfl, by go_num, Hset.out, ?_⟩
          exact (Hch.out.thenB (Below.drewN (Below.refl _ _) nq)).trans (((Chg.set _ (l := [g]) (by show g ∈ [g]; simp) _).trans (Chg.set _ (l := [g]) (by show g ∈ [g]; simp) _)).trans (Chg.set _ (l := [g]) (by show g ∈ [g]; simp) _))
      · have d0 : decide ((j : Int) < (xs.length : Int)) = false := by simp; omega
        have hym := hYm'.out j hlj (by omega)
        rw [hym] at hat
        obtain ⟨a0, a1, a2⟩ := hat
        have hm := fun W => lawMark_any W
        have heq := fun W => run_eql_cell (-9) ⟨#[109, 97, 114, 107]⟩ 9 (-9) ⟨#[109, 97, 114, 107]⟩ 9 W
        rw [decide_eq_true rfl] at heq
        change wr.cell? _ = some (.int .i64 (-9)) at a0
        change wr.cell? _ = some (.string ⟨#[109, 97, 114, 107]⟩) at a1
        change wr.cell? _ = some (.int .i64 9) at a2
        have hgr := hgl.2
        have kp : ∀ w', Below wr.heap.size wr w' → (Below wr.heap.size wr w' ∧ w'.cell? ⟨g, j * 3, none⟩ = some (.int .i64 (-9)) ∧ w'.cell? ⟨g, j * 3 + 1, none⟩ = some (.string ⟨#[109, 97, 114, 107]⟩) ∧ w'.cell? ⟨g, j * 3 + 2, none⟩ = some (.int .i64 9)) := by
          intro w' hb
          exact ⟨hb, (hb.cell (p := ⟨g, _, none⟩) (by show g < _; omega)).trans a0, (hb.cell (p := ⟨g, _, none⟩) (by show g < _; omega)).trans a1, (hb.cell (p := ⟨g, _, none⟩) (by show g < _; omega)).trans a2⟩
        have hk0 := kp wr (Below.refl _ _)
        clear a0 a1 a2 hym
        go_wp2_with fail
        go_region_held3 (fun w' => Below wr.heap.size wr w' ∧ w'.cell? ⟨g, j * 3, none⟩ = some (.int .i64 (-9)) ∧ w'.cell? ⟨g, j * 3 + 1, none⟩ = some (.string ⟨#[109, 97, 114, 107]⟩) ∧ w'.cell? ⟨g, j * 3 + 2, none⟩ = some (.int .i64 9)) (first | exact kp _ (Below.refl _ _).drew | assumption)
          (first | (go_at_call 82; refine (hm _).mono ?_; rintro e w4 ⟨rfl, hb4⟩; have hk4 := kp _ (Below.trans (And.left (by assumption)) hb4)))
        have hat : True := trivial
        have hown3 := Hown.out.below hk4.1
        obtain ⟨⟨u0, e0⟩, ⟨u1, e1⟩, ⟨u2, e2⟩, f0, f1, f2⟩ := hown3.room3 (k := j) (fun _ => rfl) (by omega)
        have hset := hown3.set3 (k := j) (c := spoiltC) (fun _ => rfl) hlen.symm (by omega) rfl
        rw [step_set (fun _ => spoiltC) hlj] at hset
        have Hset := Lib.hid hset
        clear hset hat hlen Hown
        go_wp2_with fail
        go_roundg (xs.length + 3 - (j + 1))
        case measure => have := Hj.out; omega
        case rel =>
          refine ⟨j + 1, by have := Hj.out; omega, rfl, by go_num, Hset.out, ?_⟩
          exact (Hch.out.thenB hk4.1).trans (((Chg.set _ (l := [g]) (by show g ∈ [g]; simp) _).trans (Chg.set _ (l := [g]) (by show g ∈ [g]; simp) _)).trans (Chg.set _ (l := [g]) (by show g ∈ [g]; simp) _))
    · obtain rfl : j = xs.length + 3 := by have := Hj.out; omega
      go_wp2_with fail
      go_ret
      exact ⟨rfl, Hch.out⟩
end Go.Proofs.Ytheimbhnckaonaa
