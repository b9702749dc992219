/- The contract of the document's Wrote. -/
import Derived.Test.YtheimbhnckaonaaRefL
set_option linter.unusedVariables false
set_option linter.unusedSimpArgs false
namespace Go.Proofs.Ytheimbhnckaonaa
open Go.RowKit

theorem ins1_length (L : List Cell) (c : Cell) : (ins1 L c).length ≤ L.length + 1 := by
  unfold ins1; split
  · omega
  · rw [sortC_length]; simp
theorem insL_length (cs : List Cell) : ∀ L : List Cell, (insL L cs).length ≤ L.length + cs.length := by
  induction cs with
  | nil => intro L; exact Nat.le_refl _
  | cons c r ih =>
    intro L
    have h1 := ih (ins1 L c)
    have h2 := ins1_length L c
    rw [show insL L (c :: r) = insL (ins1 L c) r from rfl, List.length_cons]
    omega

set_option maxHeartbeats 2000000 in
theorem refWrote_bad (b : RefB) (O : Op14) (a : Option Addr) (cap : Nat) (cs : List Cell) (w : World) (h : IsRef w b O) (hs : Sl 3 cellL w a cs) (hl : cs.length ≤ 1000000000) (he : wroteE O cs ≠ 0) :
    Calls Try.prog 50 #[.pointer (some ⟨b.rp, 0, none⟩), .slice a cs.length cap] w fun e w' => e = .returned (.int .i64 (wroteE O cs)) ∧ Below w.heap.size w w' := by
  have hmay := fun x y z W hW => refMay_any b O x y z W hW
  have H := Lib.hid h
  clear h
  go_enter Try.func50, Try.ntmps50
  go_wp2_with fail
  go_loopg [5, 6] cs.length (fun g i _ wr => ∃ j : Nat, j + g = cs.length ∧ i = .int .i64 j ∧ (∀ i (hi : i < cs.length), i < j → mayE O cs[i] = 0) ∧ Below w.heap.size w wr)
  case atStart => exact ⟨0, by omega, rfl, fun i _ h => absurd h (Nat.not_lt_zero _), Below.refl _ _⟩
  case round =>
    obtain ⟨j, hj, rfl, hall, hb⟩ := hrel
    have Hj := Lib.hid hj
    have Hall := Lib.hid hall
    clear hj hall
    by_cases hlt : j < cs.length
    · obtain ⟨ob, oo, rfl, hob, h0, h1, h2⟩ := hs.at3 hlt rfl
      have d0 := (hb.cell (p := ⟨ob, _, none⟩) hob).trans h0
      have d1 := (hb.cell (p := ⟨ob, _, none⟩) hob).trans h1
      have d2 := (hb.cell (p := ⟨ob, _, none⟩) hob).trans h2
      clear h0 h1 h2
      have hE : mayE O ⟨cs[j].v, cs[j].k, cs[j].s⟩ = mayE O cs[j] := rfl
      have hmj := fun W hW => hmay cs[j].v cs[j].k cs[j].s W hW
      rw [hE] at hmj
      by_cases hz : mayE O cs[j] = 0
      · rw [hz] at hmj
        have Hz := Lib.hid hz
        clear hz hE hmay
        generalize cs[j].v = x at *
        generalize cs[j].k = y at *
        generalize cs[j].s = z at *
        go_wp2_with fail
        refine (hmj _ (H.out.below hb)).mono ?_
        rintro e w1 ⟨rfl, hb1⟩
        go_wp2_with fail
        go_roundg (gk - 1)
        case measure => have := Hj.out; omega
        case rel =>
          refine ⟨j + 1, by have := Hj.out; omega, by go_num, fun i hi hij => ?_, hb.trans (hb1.mono hb.size)⟩
          by_cases e : i = j
          · subst e; exact Hz.out
          · exact Hall.out i hi (by omega)
      · have hw := wroteE_first Hall.out hlt hz
        have Hw := Lib.hid hw
        have hz2 : (mayE O cs[j] != 0) = true := by simpa using hz
        clear hw hz hE hmay
        generalize mayE O cs[j] = r at *
        generalize cs[j].v = x at *
        generalize cs[j].k = y at *
        generalize cs[j].s = z at *
        go_wp2_with fail
        refine (hmj _ (H.out.below hb)).mono ?_
        rintro e w1 ⟨rfl, hb1⟩
        go_wp2_with fail
        go_ret
        exact ⟨by rw [Hw.out]; rfl, hb.trans (hb1.mono hb.size)⟩
    · exfalso
      apply he
      refine wroteE_none fun c hc => ?_
      obtain ⟨i, hi, rfl⟩ := List.getElem_of_mem hc
      exact Hall.out i hi (by have := Hj.out; omega)

set_option maxHeartbeats 2000000 in
theorem refWrote_ok (b : RefB) (O : Op14) (a : Option Addr) (cap : Nat) (cs : List Cell) (w : World) (h : IsRef w b O) (hs : Sl 3 cellL w a cs) (hne : cs ≠ [] → ∀ g off sp, a = some ⟨g, off, sp⟩ → g ≠ b.rp) (hl : O.live.length + cs.length ≤ 100000000) (he : wroteE O cs = 0) :
    Calls Try.prog 50 #[.pointer (some ⟨b.rp, 0, none⟩), .slice a cs.length cap] w fun e w' => e = .returned (.int .i64 0) ∧ IsRef w' b { O with live := insL O.live cs } ∧ Chg [b.rp] w w' := by
  have hmay := fun x y z W hW => refMay_any b O x y z W hW
  have hz0 := wroteE_ok he
  have H := Lib.hid h
  clear h
  go_enter Try.func50, Try.ntmps50
  go_wp2_with fail
  go_loopg [5, 6] cs.length (fun g i _ wr => ∃ j : Nat, j + g = cs.length ∧ i = .int .i64 j ∧ Below w.heap.size w wr)
  case atStart => exact ⟨0, by omega, rfl, Below.refl _ _⟩
  case round =>
    obtain ⟨j, hj, rfl, hb⟩ := hrel
    have Hj := Lib.hid hj
    clear hj
    by_cases hlt : j < cs.length
    · obtain ⟨ob, oo, rfl, hob, h0, h1, h2⟩ := hs.at3 hlt rfl
      have d0 := (hb.cell (p := ⟨ob, _, none⟩) hob).trans h0
      have d1 := (hb.cell (p := ⟨ob, _, none⟩) hob).trans h1
      have d2 := (hb.cell (p := ⟨ob, _, none⟩) hob).trans h2
      clear h0 h1 h2
      have hmj := fun W hW => hmay cs[j].v cs[j].k cs[j].s W hW
      have hz := hz0 cs[j] (List.getElem_mem _)
      rw [show mayE O ⟨cs[j].v, cs[j].k, cs[j].s⟩ = mayE O cs[j] from rfl, hz] at hmj
      clear hz hmay
      generalize cs[j].v = x at *
      generalize cs[j].k = y at *
      generalize cs[j].s = z at *
      go_wp2_with fail
      refine (hmj _ (H.out.below hb)).mono ?_
      rintro e w1 ⟨rfl, hb1⟩
      go_wp2_with fail
      go_roundg (gk - 1)
      case measure => have := Hj.out; omega
      case rel => exact ⟨j + 1, by have := Hj.out; omega, by go_num, hb.trans (hb1.mono hb.size)⟩
    · have hjl : j = cs.length := by have := Hj.out; omega
      have hop := H.out.below hb
      have Hop := Lib.hid hop
      clear hjl hop hmay
      go_wp2_with fail
      go_loopg [7] cs.length (fun g i w2 => ∃ q : Nat, q + g = cs.length ∧ i = .int .i64 q ∧ IsRef w2 b { O with live := insL O.live (cs.take q) } ∧ Chg [b.rp] wr w2)
      case atStart => exact ⟨0, by omega, rfl, Hop.out, Chg.refl _ _⟩
      case round =>
        obtain ⟨q, hq, rfl, hop2, hch⟩ := hrel
        have Hq := Lib.hid hq
        have Hop2 := Lib.hid hop2
        have Hch := Lib.hid hch
        clear hq hop2 hch
        by_cases hlq : q < cs.length
        · obtain ⟨ob, oo, rfl, hob, h0, h1, h2⟩ := hs.at3 hlq rfl
          have hne' : ob ≠ b.rp := hne (fun e => by rw [e] at hlq; exact absurd hlq (Nat.not_lt_zero _)) _ _ _ rfl
          have hob2 := hb.size
          have d0 := (World.cell?_of_block (a := ⟨ob, oo + q * 3, none⟩) (Hch.out.block ob (by omega) (by simpa using hne'))).trans ((hb.cell (p := ⟨ob, _, none⟩) hob).trans h0)
          have d1 := (World.cell?_of_block (a := ⟨ob, oo + q * 3 + 1, none⟩) (Hch.out.block ob (by omega) (by simpa using hne'))).trans ((hb.cell (p := ⟨ob, _, none⟩) hob).trans h1)
          have d2 := (World.cell?_of_block (a := ⟨ob, oo + q * 3 + 2, none⟩) (Hch.out.block ob (by omega) (by simpa using hne'))).trans ((hb.cell (p := ⟨ob, _, none⟩) hob).trans h2)
          have hck := (mayE_ok (hz0 cs[q] (List.getElem_mem _))).1
          have hsn : insL O.live (cs.take (q + 1)) = ins1 (insL O.live (cs.take q)) cs[q] := by
            rw [List.take_succ_eq_append_getElem hlq, insL_snoc]
          have hll : (insL O.live (cs.take q)).length ≤ 100000000 := Nat.le_trans (insL_length _ _) (by rw [List.length_take]; omega)
          have hlv := fun W hW => refLive_any b { O with live := insL O.live (cs.take q) } cs[q].v cs[q].k cs[q].s W hW hck hll
          rw [show (⟨cs[q].v, cs[q].k, cs[q].s⟩ : Cell) = cs[q] from rfl, ← hsn] at hlv
          clear h0 h1 h2 hsn hck hll
          generalize cs[q].v = x at *
          generalize cs[q].k = y at *
          generalize cs[q].s = z at *
          go_wp2_with fail
          refine (hlv _ Hop2.out).mono ?_
          rintro e w3 ⟨rfl, hop3, hch3⟩
          have Hop3 := Lib.hid hop3
          have Hch3 := Lib.hid hch3
          clear hop3 hch3 hlv
          go_wp2_with fail
          go_roundg (gk - 1)
          case measure => have := Hq.out; omega
          case rel => exact ⟨q + 1, by have := Hq.out; omega, by go_num, Hop3.out, Hch.out.trans Hch3.out⟩
        · have hql : q = cs.length := by have := Hq.out; omega
          have hop4 := Hop2.out
          rw [hql, List.take_length] at hop4
          have Hop4 := Lib.hid hop4
          clear hop4 hql
          go_wp2_with fail
          go_ret
          exact ⟨rfl, Hop4.out, (Chg.of_below hb).mono (by simp) |>.trans Hch.out⟩
end Go.Proofs.Ytheimbhnckaonaa
