/- The contract of the law's step: marks. -/
import Derived.Test.YtheimbhnckaonaaStep
set_option linter.unusedVariables false
set_option linter.unusedSimpArgs false
namespace Go.Proofs.Ytheimbhnckaonaa
open Go.RowKit

set_option maxRecDepth 100000 in
set_option maxHeartbeats 4000000 in
theorem step_mark {N : Nat} (b : OpB) (r : RefB) (O : Op14) (source : Int) (key : ByteArray) (t v : Int) (c : Value) (w : World) (h : Both N w b r O) (hmax : O.live.length ≤ 10000000) (hN : N ≤ w.heap.size) :
    Calls Try.prog 20 #[.pointer (some ⟨b.bp, 0, none⟩), .pointer (some ⟨r.rp, 0, none⟩), stepV 2 source key t v c] w fun e w' => e = .returned (.bool true) ∧ ∃ O', Both N w' b r O' ∧ Chg (four b r) w w' ∧ O'.live.length ≤ O.live.length + 300 := by
  have hX : (markX O source t).length ≤ 10000000 := by
    unfold markX
    split
    · exact Nat.le_trans (List.length_filter_le _ _) hmax
    · simp
  have ht1 := fun W hW => mark_all b O source t W hW (by omega)
  have ht2 := fun W hW => refMark_all r O source t W hW (by omega)
  have hwl := markO_len O source t
  have H := Lib.hid h
  unfold stepV
  clear h
  generalize markX O source t = X at *
  generalize markO O source t = O1 at *
  generalize markE O source t = er at *
  go_enter Try.func20, Try.ntmps20
  have hbw : Below w.heap.size w (w.alloc (.cells #[.int .i64 2, .int .i64 source, .string key, .int .i64 t, .int .i64 v, c] 37)) := (Below.refl _ _).alloc (Nat.le_refl _) _
  have B0 := Lib.hid (H.out.below hbw)
  have hlt0 := H.out.op.lt
  have hlt0' := H.out.rf.lt
  go_wp2_with fail
  refine (ht1 _ B0.out.op).mono ?_
  rintro e w1 ⟨v1, rfl, hx1, hop1, hch1⟩
  have hz1 := hch1.size
  simp at hz1
  have hk : ∀ off, w1.cell? ⟨w.heap.size, off, none⟩ = (w.alloc (.cells #[.int .i64 2, .int .i64 source, .string key, .int .i64 t, .int .i64 v, c] 37)).cell? ⟨w.heap.size, off, none⟩ := fun off => World.cell?_of_block (a := ⟨w.heap.size, off, none⟩) (hch1.block _ (by simp) (by simp; omega))
  have f1 : w1.cell? ⟨w.heap.size, 1, none⟩ = some (.int .i64 source) := by rw [hk]; go_simp
  have f3 : w1.cell? ⟨w.heap.size, 3, none⟩ = some (.int .i64 t) := by rw [hk]; go_simp
  have hrf1 := B0.out.rf_stays hch1
  obtain ⟨o1, cap1, rfl, hc1, hs1, hov1, hu1⟩ := hx1.sl fun _ => rfl
  clear hx1 ht1 hk
  go_wp2_with fail
  refine (ht2 _ hrf1).mono ?_
  rintro e w2 ⟨v2, rfl, hx2, hrf2, hch2⟩
  have hz2 := hch2.size
  have hop2 := op_stays B0.out hop1 hch2
  have hb0' := B0.out
  have hfin : Both N w2 b r O1 := ⟨hop2, hrf2, hb0'.hl, hb0'.hv, hb0'.n1, hb0'.n2, hb0'.n3, hb0'.n4⟩
  have hbf : Chg (four b r) w w2 := (((Chg.of_below hbw).mono (by simp)).trans (hch1.mono (by simp [four]))).trans (hch2.mono (by simp [four]))
  obtain ⟨o2, cap2, rfl, hc2, hs2, hov2, hu2⟩ := hx2.sl fun _ => rfl
  have hs12 := hs1.chg hch2 (fun g off e => by have := hov1 g off none e; simp at this ⊢; omega)
  have hsame := same_any o1 cap1 X o2 cap2 X w2 hs12 hs2 (by omega)
  rw [decide_eq_true rfl] at hsame
  have Hfin := Lib.hid hfin
  clear ht2 f1 f3 hs1 hs12 hx2 hs2 hfin hop2 hrf2 hop1 hrf1
  go_wp2_with fail
  refine hsame.mono ?_
  rintro e w3 ⟨rfl, hb3⟩
  have heq : (er == er) = true := by simp
  go_wp2_with fail
  go_ret
  exact ⟨rfl, O1, Hfin.out.below hb3, hbf.thenB hb3, by omega⟩

set_option maxHeartbeats 4000000 in
theorem step_other {N : Nat} (b : OpB) (r : RefB) (O : Op14) (kind source : Int) (key : ByteArray) (t v : Int) (c : Value) (w : World) (h : Both N w b r O) (hN : N ≤ w.heap.size) (h1 : ¬ kind = 1) (h2 : ¬ kind = 2) (h3 : ¬ kind = 3) (h4 : ¬ kind = 4) :
    Calls Try.prog 20 #[.pointer (some ⟨b.bp, 0, none⟩), .pointer (some ⟨r.rp, 0, none⟩), stepV kind source key t v c] w fun e w' => e = .returned (.bool true) ∧ ∃ O', Both N w' b r O' ∧ Chg (four b r) w w' ∧ O'.live.length ≤ O.live.length + 300 := by
  have H := Lib.hid h
  unfold stepV
  clear h
  have g1 : (kind == 1) = false := by simpa using h1
  have g2 : (kind == 2) = false := by simpa using h2
  have g3 : (kind == 3) = false := by simpa using h3
  have g4 : (kind == 4) = false := by simpa using h4
  go_enter Try.func20, Try.ntmps20
  have hbw : Below w.heap.size w (w.alloc (.cells #[.int .i64 kind, .int .i64 source, .string key, .int .i64 t, .int .i64 v, c] 37)) := (Below.refl _ _).alloc (Nat.le_refl _) _
  go_wp2_with fail
  go_ret
  exact ⟨rfl, O, H.out.below hbw, (Chg.of_below hbw).mono (by simp), by omega⟩
end Go.Proofs.Ytheimbhnckaonaa
