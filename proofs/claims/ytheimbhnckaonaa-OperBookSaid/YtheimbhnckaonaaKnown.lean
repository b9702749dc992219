/- The contract of the law's known example. -/
import Derived.Test.YtheimbhnckaonaaKnow
set_option linter.unusedVariables false
set_option linter.unusedSimpArgs false
namespace Go.Proofs.Ytheimbhnckaonaa
open Go.RowKit

theorem sl_row {α : Type} {sz : Nat} {enc : α → List Value} (hz : ∀ x, (enc x).length = sz) (xs : List α) (w : World) (t : TypeId) {cs : Array Value} (h : cs.toList = xs.flatMap enc) : Sl sz enc (w.alloc (.cells cs t)) (some ⟨w.heap.size, 0, none⟩) xs := by
  intro i hi
  refine ⟨w.heap.size, 0, rfl, by simp, fun j u hu => ?_⟩
  have hb : (w.alloc (.cells cs t)).heap[w.heap.size]? = some (.cells cs t) := blk_at rfl
  have hj : j < sz := by rw [← hz xs[i]]; exact (List.getElem?_eq_some_iff.1 hu).1
  have e1 := flat_get hz xs i hi j hj
  rw [← h, hu] at e1
  simp only [World.cell?, hb, Nat.zero_add]
  simpa using e1

set_option maxRecDepth 100000 in
set_option maxHeartbeats 4000000 in
theorem known_any (w : World) : Calls Try.prog 15 #[] w fun e w' => e = .returned (.bool true) ∧ Below w.heap.size w w' := by
  have hnew := fun a cap W hs => new_ok a cap kV 1 W hs (by decide) (by decide) k_ok (by decide) (by decide)
  have htake := fun b W hW => take_all b kO0 kk 12 W hW
  rw [k_take, k_late, k_takeE] at htake
  have hwr := fun b a cap W hW hs => wrote_all b kO0 a cap kX W hW hs (by decide)
  rw [k_wroteE, k_wrote] at hwr
  have hm1 := fun b W hW => mark_all b kO1 0 15 W hW (by decide)
  rw [k_m1, k_e1, k_o1] at hm1
  have hm2 := fun b W hW => mark_all b kO2 0 18 W hW (by decide)
  rw [k_m2, k_e2, k_o2] at hm2
  have hl := fun b W hW => operLeast_any b kO3 W hW
  rw [k_l] at hl
  have hsr : Sl 3 viewL (w.alloc (.cells #[.int .i64 10, .int .i64 10, .int .i64 0, .int .i64 10, .int .i64 5, .int .i64 3] 49)) (some ⟨w.heap.size, 0, none⟩) kV := sl_row (enc := viewL) (sz := 3) (fun _ => rfl) kV w _ rfl
  have hb0 : Below w.heap.size w (w.alloc (.cells #[.int .i64 10, .int .i64 10, .int .i64 0, .int .i64 10, .int .i64 5, .int .i64 3] 49)) := (Below.refl _ _).alloc (Nat.le_refl _) _
  go_enter Try.func15, Try.ntmps15
  go_wp2_with fail
  refine (hnew _ _ _ hsr).mono ?_
  rintro e w1 ⟨b, rfl, hop, hb1, n1, n2, n3, _⟩
  have hbw1 : Below w.heap.size w w1 := hb0.trans (hb1.mono (by simp))
  change IsOper w1 b kO0 at hop
  go_wp2_with fail
  refine (htake b _ hop).mono ?_
  rintro e w2 ⟨v2, rfl, hx2, hb2⟩
  obtain ⟨o2, cap2, rfl, _, hs2, _, _⟩ := hx2.sl fun _ => rfl
  have hbw2 : Below w.heap.size w w2 := hbw1.trans (hb2.mono hbw1.size)
  go_wp2_with fail
  refine (hwr b _ _ _ (hop.below hb2) hs2).mono ?_
  rintro e w3 ⟨rfl, hop3, hch3⟩
  have hsz2 := hbw2.size
  simp at n1 n2 n3
  have hbw3 : Below w.heap.size w w3 := Below.chain hbw2 hch3 hsz2 (by simp; omega)
  go_wp2_with fail
  refine (hm1 b _ hop3).mono ?_
  rintro e w4 ⟨v4, rfl, hx4, hop4, hch4⟩
  obtain ⟨o4, cap4, rfl, _, _, _, _⟩ := hx4.sl fun _ => rfl
  have hbw4 : Below w.heap.size w w4 := Below.chain hbw3 hch4 hbw3.size (by simp; omega)
  go_wp2_with fail
  refine (hm2 b _ hop4).mono ?_
  rintro e w5 ⟨v5, rfl, hx5, hop5, hch5⟩
  obtain ⟨o5, cap5, rfl, _, hs5, _, _⟩ := hx5.sl fun _ => rfl
  have hbw5 : Below w.heap.size w w5 := Below.chain hbw4 hch5 hbw4.size (by simp; omega)
  have hb6 : Below w5.heap.size w5 (w5.alloc (.cells #[.int .i64 1, .string kk, .int .i64 5] 51)) := (Below.refl _ _).alloc (Nat.le_refl _) _
  have hsame := same_any o5 cap5 [⟨1, kk, 5⟩] (some ⟨w5.heap.size, 0, none⟩) 1 [⟨1, kk, 5⟩] (w5.alloc (.cells #[.int .i64 1, .string kk, .int .i64 5] 51)) (hs5.below hb6) (sl_row (enc := cellL) (sz := 3) (fun _ => rfl) [⟨1, kk, 5⟩] w5 _ rfl) (by decide)
  rw [decide_eq_true rfl] at hsame
  go_wp2_with fail
  refine hsame.mono ?_
  rintro e w6 ⟨rfl, hb7⟩
  have hop6 := (hop5.below hb6).below hb7
  go_wp2_with fail
  refine (hl b _ hop6).mono ?_
  rintro e w7 ⟨rfl, rfl⟩
  go_wp2_with fail
  go_ret
  refine ⟨rfl, hbw5.trans ((hb6.mono hbw5.size).trans (hb7.mono ?_))⟩
  have := hbw5.size
  simp; omega
end Go.Proofs.Ytheimbhnckaonaa
