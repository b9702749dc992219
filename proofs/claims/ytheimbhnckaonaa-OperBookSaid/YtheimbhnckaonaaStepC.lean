/- The contract of the law's step: cells written. -/
import Derived.Test.YtheimbhnckaonaaStepB
set_option linter.unusedVariables false
set_option linter.unusedSimpArgs false
namespace Go.Proofs.Ytheimbhnckaonaa
open Go.RowKit

theorem Chg.cutOff {l : List Nat} {a b c : World} {g : Nat} (h : Chg l a b) (k : Chg [g] b c) (hg : a.heap.size ≤ g) : Chg l a c :=
  ⟨k.os.trans h.os, k.tape.trans h.tape, k.output.trans h.output, Nat.le_trans h.size k.size, fun i hi hl => (k.block i (Nat.lt_of_lt_of_le hi h.size) (by simp; omega)).trans (h.block i hi hl)⟩

set_option maxRecDepth 100000 in
set_option maxHeartbeats 4000000 in
theorem step_wrote {N : Nat} (b : OpB) (r : RefB) (O : Op14) (source : Int) (key : ByteArray) (t v : Int) (A : Option Addr) (cap : Nat) (cs : List Cell) (w : World) (h : Both N w b r O) (hs : Sl 3 cellL w A cs) (hA : cs ≠ [] → Under N A) (hc : cs.length ≤ cap) (hmax : O.live.length ≤ 10000000) (hN : N ≤ w.heap.size) :
    Calls Try.prog 20 #[.pointer (some ⟨b.bp, 0, none⟩), .pointer (some ⟨r.rp, 0, none⟩), stepV 3 source key t v (.slice A cs.length cap)] w fun e w' => e = .returned (.bool true) ∧ ∃ O', Both N w' b r O' ∧ Chg (four b r) w w' ∧ O'.live.length ≤ O.live.length + 300 := by
  have hcut := fun W => cut_any A cap cs W hc
  have hX : (cs.take 300).length ≤ 300 := by rw [List.length_take]; omega
  have hsX := hs.take 300
  have hwl := wroteO_len O (cs.take 300)
  have H := Lib.hid h
  unfold stepV
  clear h hs
  have hAX : cs.take 300 ≠ [] → Under N A := fun h => hA (fun e => h (by rw [e]; rfl))
  clear hA
  generalize cs.take 300 = X at *
  have hlend := fun W hs => lendCells_any A cap X W hs (by omega)
  go_enter Try.func20, Try.ntmps20
  have hbw : Below w.heap.size w (w.alloc (.cells #[.int .i64 3, .int .i64 source, .string key, .int .i64 t, .int .i64 v, .slice A cs.length cap] 37)) := (Below.refl _ _).alloc (Nat.le_refl _) _
  have hs0 := hsX.below hbw
  have B0 := Lib.hid (H.out.below hbw)
  go_wp2_with (go_at_call 51; refine (hcut _).mono ?_; rintro e w' ⟨rfl, rfl⟩)
  refine (hlend _ hs0).mono ?_
  rintro e w1 ⟨g, rfl, hown, hb1⟩
  have hz1 := hb1.size
  simp at hz1
  have hgg := (hown.ge (g := g) rfl)
  simp at hgg
  have hsl : Sl 3 cellL w1 (some ⟨g, 0, none⟩) X := by
    have h := (hown.sl0 (fun _ => rfl)).take X.length
    rw [List.take_left] at h
    exact h
  have B1 := Lib.hid (B0.out.below hb1)
  have hw1 := wrote_all b O (some ⟨g, 0, none⟩) (X.length + 3) X w1 B1.out.op hsl (by omega)
  have Hown := Lib.hid hown
  clear hlend hcut hown hsl
  go_wp2_with fail
  refine hw1.mono ?_
  rintro e w2 ⟨rfl, hop2, hch2⟩
  have hz2 := hch2.size
  have hbr := B0.out.op.lt
  have hrl := B0.out.rf.lt
  simp at hbr hrl
  have hown2 := Hown.out.chg hch2 (fun g' hg' => by cases hg'; simp; omega)
  have hsA2 : Sl 3 cellL w2 A X := by
    have h1 := hs0.below hb1
    by_cases hX0 : X = []
    · rw [hX0]; exact Sl.nil _ _ _ _
    refine h1.chg hch2 (fun g' off e => ?_)
    have := hAX hX0 g' off none e
    have := B0.out.n2
    simp; omega
  have hkept := keptCells_any _ g A cap X w2 hsA2 hown2 (by omega)
  clear hw1
  go_wp2_with fail
  refine hkept.mono ?_
  rintro e w3 ⟨rfl, hch3⟩
  have hz3 := hch3.size
  have hch03 : Chg [b.br] (w.alloc (.cells #[.int .i64 3, .int .i64 source, .string key, .int .i64 t, .int .i64 v, .slice A cs.length cap] 37)) w3 := (((Chg.of_below hb1).mono (by simp)).trans hch2).cutOff hch3 (by simp; omega)
  have hrf3 := B0.out.rf_stays (hch03.mono (by simp))
  have hop3 := hop2.belowN (N := w.heap.size + 1) (hch3.below (by omega) (by simp; omega)) ⟨hbr.1, hbr.2.1, hbr.2.2.1, hbr.2.2.2⟩ (fun g' off sp e => by have := (B0.out.op.vne g' off sp e).2.2; simpa using this)
  have hb0' := B0.out
  have hsA3 : Sl 3 cellL w3 A X := by
    by_cases hX0 : X = []
    · rw [hX0]; exact Sl.nil _ _ _ _
    refine hsA2.chg hch3 (fun g' off e => ?_)
    have := hAX hX0 g' off none e
    simp; omega
  have hw2 := refWrote_all r O A cap X w3 hrf3 hsA3 (fun hX0 g' off sp e => by have := hAX hX0 g' off sp e; have := hb0'.n3; omega) (by omega)
  clear hkept
  go_wp2_with fail
  refine hw2.mono ?_
  rintro e w4 ⟨rfl, hrf4, hch4⟩
  have hop4 := op_stays B0.out hop3 (hch4.mono (by simp))
  have hfin : Both N w4 b r (wroteO O X) := ⟨hop4, hrf4, hb0'.hl, hb0'.hv, hb0'.n1, hb0'.n2, hb0'.n3, hb0'.n4⟩
  have hbf : Chg (four b r) w w4 := (((Chg.of_below hbw).mono (by simp)).trans (hch03.mono (by simp [four]))).trans (hch4.mono (by simp [four]))
  have heq : (wroteE O X == wroteE O X) = true := by simp
  have Hfin := Lib.hid hfin
  clear hfin hop4 hrf4 hop3 hrf3 hop2 hw2
  go_wp2_with fail
  go_ret
  exact ⟨rfl, wroteO O X, Hfin.out, hbf, by omega⟩
end Go.Proofs.Ytheimbhnckaonaa
