/- The walk of the law OperPlays: two new operators. -/
import Derived.Test.YtheimbhnckaonaaPlays
set_option linter.unusedVariables false
set_option linter.unusedSimpArgs false
namespace Go.Proofs.Ytheimbhnckaonaa
open Go.RowKit

/-- Two new operators stand apart. -/
theorem both_new {w1 w2 : World} {N : Nat} {b : OpB} {r : RefB} {O : Op14} (h1 : IsOper w1 b O) (hb : Below w1.heap.size w1 w2) (h2 : IsRef w2 r O) (n1 : N ≤ b.bl) (n2 : N ≤ b.br) (n3 : w1.heap.size ≤ r.rp) (n4 : w1.heap.size ≤ r.rl) (hN : N ≤ w1.heap.size) : Both N w2 b r O := by
  have hlt := h1.lt
  refine ⟨h1.below hb, h2, by omega, fun g off sp e => ?_, n1, n2, by omega, by omega⟩
  have := (h1.vne g off sp e).2.2
  exact ⟨by omega, by omega⟩

set_option maxRecDepth 100000 in
set_option maxHeartbeats 4000000 in
theorem plays_bad (A : Option Addr) (cap : Nat) (vs : List View) (n : Int) (sc : Value) (w : World) (hs : Sl 3 viewL w A vs) (hA : Under w.heap.size A) (hl : vs.length ≤ 100000000) (he : newE vs n ≠ 0) :
    Calls Try.prog 7 #[.slice A vs.length cap, .int .i64 n, sc] w fun e w' => e = .returned (.bool true) ∧ Below w.heap.size w w' := by
  have hk := fun W => known_any W
  have hlend := fun W hs => lendV_any A cap vs W hs hl
  have hn1 := fun a c W hs => new_bad a c vs n W hs he
  have hn2 := fun a c W hs => refNew_bad a c vs n W hs he
  generalize newE vs n = er at *
  go_enter Try.func7, Try.ntmps7
  go_wp2_with fail
  refine (hk _).mono ?_
  rintro e w0 ⟨rfl, hb0⟩
  go_wp2_with fail
  refine (hlend _ (hs.below hb0)).mono ?_
  rintro e w1 ⟨g, rfl, hown, hb1⟩
  have hsl : Sl 3 viewL w1 (some ⟨g, 0, none⟩) vs := by
    have h := (hown.sl0 (fun _ => rfl)).take vs.length
    rw [List.take_left] at h
    exact h
  have hgg := hown.ge (g := g) rfl
  have hz0 := hb0.size
  have hz1 := hb1.size
  go_wp2_with fail
  refine (hn1 _ _ _ hsl).mono ?_
  rintro e w2 ⟨rfl, hb2⟩
  have hb02 : Below w.heap.size w w2 := hb0.trans ((hb1.mono hz0).trans (hb2.mono (by omega)))
  have hz2 := hb2.size
  go_wp2_with fail
  refine (hn2 _ _ _ (hs.below hb02)).mono ?_
  rintro e w3 ⟨rfl, hb3⟩
  have hown3 := (hown.below hb2).below hb3
  have hb03 : Below w.heap.size w w3 := hb02.trans (hb3.mono (by omega))
  have hz3 := hb3.size
  go_wp2_with fail
  refine (keptV_any _ g A cap vs w3 (hs.below hb03) (fun b' off sp e => by have := hA b' off sp e; omega) hown3 hl).mono ?_
  rintro e w4 ⟨rfl, hch4⟩
  have her : (er != er) = false := by simp
  go_wp2_with fail
  go_ret
  exact ⟨rfl, Below.chain hb03 hch4 (by omega) (by simp; omega)⟩
end Go.Proofs.Ytheimbhnckaonaa
