/- The contract of the law's step. -/
import Derived.Test.YtheimbhnckaonaaAll
set_option linter.unusedVariables false
set_option linter.unusedSimpArgs false
namespace Go.Proofs.Ytheimbhnckaonaa
open Go.RowKit

theorem Both.drew {N : Nat} {w : World} {b : OpB} {r : RefB} {O : Op14} (h : Both N w b r O) (n : Nat) : Both N (w.drewN n) b r O := h.below (Below.drewN (Below.refl _ _) n)

/-- The value of a step. -/
def stepV (kind source : Int) (key : ByteArray) (t v : Int) (c : Value) : Value := .agg #[.int .i64 kind, .int .i64 source, .string key, .int .i64 t, .int .i64 v, c]

set_option maxRecDepth 100000 in
set_option maxHeartbeats 4000000 in
theorem step_take {N : Nat} (b : OpB) (r : RefB) (O : Op14) (source : Int) (key : ByteArray) (t v : Int) (c : Value) (w : World) (h : Both N w b r O) (hmax : O.live.length ≤ 10000000) (hN : N ≤ w.heap.size) :
    Calls Try.prog 20 #[.pointer (some ⟨b.bp, 0, none⟩), .pointer (some ⟨r.rp, 0, none⟩), stepV 1 source key t v c] w fun e w' => e = .returned (.bool true) ∧ ∃ O', Both N w' b r O' ∧ Chg (four b r) w w' ∧ O'.live.length ≤ O.live.length + 300 := by
  have hX : (takeX O key t).length ≤ 256 := takeX_len h.op.vhi h.op.vok key t
  have ht1 := fun W hW => take_all b O key t W hW
  have ht2 := fun W hW => refTake_all r O key t W hW
  have hw1 := fun a cap W hW hs hl => wrote_all b O a cap (takeX O key t) W hW hs hl
  have hw2 := fun a cap W hW hs (hne : ∀ g off sp, a = some ⟨g, off, sp⟩ → g ≠ r.rp) hl => refWrote_all r O a cap (takeX O key t) W hW hs (fun _ => hne) hl
  have hwl := wroteO_len O (takeX O key t)
  have H := Lib.hid h
  unfold stepV
  clear h
  generalize takeX O key t = X at *
  generalize takeL O key t = lt at *
  generalize takeE O key t = er at *
  go_enter Try.func20, Try.ntmps20
  have hbw : Below w.heap.size w (w.alloc (.cells #[.int .i64 1, .int .i64 source, .string key, .int .i64 t, .int .i64 v, c] 37)) := (Below.refl _ _).alloc (Nat.le_refl _) _
  have B0 := Lib.hid (H.out.below hbw)
  go_wp2_with fail
  refine (ht1 _ B0.out.op).mono ?_
  rintro e w1 ⟨v1, rfl, hx1, hb1⟩
  have hz1 := hb1.size
  simp at hz1
  have f2 : w1.cell? ⟨w.heap.size, 2, none⟩ = some (.string key) := by rw [hb1.cell (by simp)]; go_simp
  have f3 : w1.cell? ⟨w.heap.size, 3, none⟩ = some (.int .i64 t) := by rw [hb1.cell (by simp)]; go_simp
  have f4 : w1.cell? ⟨w.heap.size, 4, none⟩ = some (.int .i64 v) := by rw [hb1.cell (by simp)]; go_simp
  have B1 := Lib.hid (B0.out.below hb1)
  obtain ⟨o1, cap1, rfl, hc1, hs1, _, hu1⟩ := hx1.sl fun _ => rfl
  have hbw1 := Lib.hid (hbw.trans (hb1.mono (by simp)))
  clear hx1 ht1
  go_wp2_with fail
  refine (ht2 _ B1.out.rf).mono ?_
  rintro e w2 ⟨v2, rfl, hx2, hb2⟩
  have hz2 := hb2.size
  have g4 : w2.cell? ⟨w.heap.size, 4, none⟩ = some (.int .i64 v) := (hb2.cell (p := ⟨w.heap.size, 4, none⟩) (by show w.heap.size < _; omega)).trans f4
  have B2 := Lib.hid (B1.out.below hb2)
  obtain ⟨o2, cap2, rfl, hc2, hs2, hov2, hu2⟩ := hx2.sl fun _ => rfl
  have hs12 := hs1.below hb2
  have hbw2 := Lib.hid (hbw1.out.trans (hb2.mono (by omega)))
  have hsame := fun W (ha : Below w2.heap.size w2 W) => same_any o1 cap1 X o2 cap2 X W (hs12.below ha) (hs2.below ha) (by omega)
  rw [decide_eq_true rfl] at hsame
  have Hs2 := Lib.hid hs2
  clear ht2 f2 f3 f4 hs1 hs12 hx2 hs2
  go_wp2_with fail
  refine (hsame _ (Below.refl _ _)).mono ?_
  rintro e w3 ⟨rfl, hb3⟩
  have hz3 := hb3.size
  have g5 : w3.cell? ⟨w.heap.size, 4, none⟩ = some (.int .i64 v) := (hb3.cell (p := ⟨w.heap.size, 4, none⟩) (by show w.heap.size < _; omega)).trans g4
  have B3 := Lib.hid (B2.out.below hb3)
  have hbw3 := Lib.hid (hbw2.out.trans (hb3.mono (by omega)))
  have hs3 := Lib.hid (Hs2.out.below hb3)
  clear g4 hsame
  have hlt : (lt != lt) = false := by simp
  have her : (er != er) = false := by simp
  by_cases hv : v < 1
  · go_wp2_with fail
    go_ret
    exact ⟨rfl, O, B3.out, (Chg.of_below hbw3.out).mono (by simp), by omega⟩
  · have hw1' := hw1 o2 cap2 w3 B3.out.op hs3.out (by omega)
    go_wp2_with fail
    refine hw1'.mono ?_
    rintro e w4 ⟨rfl, hop4, hch4⟩
    have hrf4 := B3.out.rf_stays (hch4.mono (by simp))
    have hge : ∀ g off sp, o2 = some ⟨g, off, sp⟩ → w1.heap.size ≤ g := fun g off sp e => by subst e; exact hov2 g off sp rfl
    have hlt3 := B1.out.rf.lt
    have hlt4 := B1.out.op.lt
    have hs4 := hs3.out.chg hch4 (fun g off e => by have := hge g off none e; simp; omega)
    have hw2' := hw2 o2 cap2 w4 hrf4 hs4 (fun g off sp e => by have := hge g off sp e; omega) (by omega)
    clear hw1' hw1 hw2
    go_wp2_with fail
    refine hw2'.mono ?_
    rintro e w5 ⟨rfl, hrf5, hch5⟩
    have hop5 := op_stays B3.out hop4 (hch5.mono (by simp))
    have hb3' := B3.out
    have hfin : Both N w5 b r (wroteO O X) := ⟨hop5, hrf5, hb3'.hl, hb3'.hv, hb3'.n1, hb3'.n2, hb3'.n3, hb3'.n4⟩
    have hbf : Chg (four b r) w w5 := (((Chg.of_below hbw3.out).mono (by simp)).trans (hch4.mono (by simp [four]))).trans (hch5.mono (by simp [four]))
    have heq : (wroteE O X == wroteE O X) = true := by simp
    have Hfin := Lib.hid hfin
    clear hfin hop5 hrf5 hop4 hrf4
    go_wp2_with fail
    go_ret
    exact ⟨rfl, wroteO O X, Hfin.out, hbf, by omega⟩
end Go.Proofs.Ytheimbhnckaonaa
