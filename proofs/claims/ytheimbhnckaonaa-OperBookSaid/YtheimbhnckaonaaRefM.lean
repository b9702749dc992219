/- The contract of the document's may. -/
import Derived.Test.YtheimbhnckaonaaRefB
set_option linter.unusedVariables false
set_option linter.unusedSimpArgs false
namespace Go.Proofs.Ytheimbhnckaonaa
open Go.RowKit

set_option maxHeartbeats 1000000 in
theorem refMay_view (b : RefB) (O : Op14) (cv : Int) (ck : ByteArray) (cs : Int) (w : World) (h : IsRef w b O) (hv : cv < 0 ∨ O.vs.length ≤ cv) :
    Calls Try.prog 80 #[.pointer (some ⟨b.rp, 0, none⟩), .agg #[.int .i64 cv, .string ck, .int .i64 cs]] w fun e w' => e = .returned (.int .i64 23) ∧ Below w.heap.size w w' := by
  obtain ⟨av, vcap, la, lcap, _, _, _, _, _, _, _, c0, _, _⟩ := h.sl
  have hlt := h.lt.1
  clear h
  go_enter Try.func80, Try.ntmps80
  go_wp2_with fail
  rcases hv with hv | hv
  · have d0 : decide (cv < 0) = true := by simpa using hv
    go_quiet (fail)
    go_wp2_with fail
    go_ret
    exact ⟨rfl, Below.drewN ((Below.refl _ _).alloc (Nat.le_refl _) _) _⟩
  · have d0 : decide (cv < 0) = false := by simp; omega
    have d1 : decide ((O.vs.length : Int) ≤ cv) = true := by simpa using hv
    go_quiet (fail)
    go_wp2_with fail
    go_ret
    exact ⟨rfl, Below.drewN ((Below.refl _ _).alloc (Nat.le_refl _) _) _⟩

set_option maxHeartbeats 2000000 in
theorem refMay_in (b : RefB) (O : Op14) (i : Nat) (ck : ByteArray) (cs : Int) (w : World) (h : IsRef w b O) (hi : i < O.vs.length) :
    Calls Try.prog 80 #[.pointer (some ⟨b.rp, 0, none⟩), .agg #[.int .i64 i, .string ck, .int .i64 cs]] w fun e w' => e = .returned (.int .i64 (mayE O ⟨i, ck, cs⟩)) ∧ Below w.heap.size w w' := by
  have hE : mayE O ⟨i, ck, cs⟩ = if keyOk ck = false then 21 else if cs < -2305843009213693952 ∨ 2305843009213693952 < cs then 22 else if cs % O.vs[i].slide ≠ 0 then 16 else if shutC O ⟨i, ck, cs⟩ = true then 26 else 0 := by
    unfold mayE shutC
    simp only
    rw [if_neg (by omega), Int.toNat_natCast, List.getD_eq_getElem?_getD, List.getElem?_eq_getElem hi]
    rfl
  have HE := Lib.hid hE
  obtain ⟨av, vcap, la, lcap, _, hvc, hvs, _, _, _, _, c0, _, _⟩ := h.sl
  have hlt := h.lt.1
  have hok := h.vok O.vs[i] (List.getElem_mem _)
  have hok' := (View.ok_iff _).1 hok
  obtain ⟨vb, vo, hav, hvb, v0, v1, v2⟩ := hvs.at3 hi rfl
  have hcl := fun W hW h1 h2 => refClosed_any b O i ck cs W hW ⟨i, hi, rfl⟩ h1 h2
  have hkey := fun W => refWrong_any ck 0 W
  rw [if_neg (c := (0 : Int) < -1152921504606846976 ∨ 1152921504606846976 < (0 : Int)) (by omega)] at hkey
  have H := Lib.hid h
  have hv4 := h.vhi
  clear h hE hvs
  subst hav
  go_enter Try.func80, Try.ntmps80
  go_wp2_with fail
  have d0 : decide ((i : Int) < 0) = false := by simp
  have d1 : decide ((O.vs.length : Int) ≤ (i : Int)) = false := by simp; omega
  go_quiet (fail)
  go_wp2_with fail
  generalize hy : O.vs[i].slide = y at *
  have Hy := Lib.hid hy
  clear hy
  refine (hkey _).mono ?_
  rintro e w2 ⟨rfl, hw2⟩
  subst hw2
  have hW : ∀ q, Below w.heap.size w ((w.alloc (.cells #[.int .i64 i, .string ck, .int .i64 cs] 51)).drewN q) := fun q => (Below.drewN ((Below.refl _ _).alloc (Nat.le_refl _) _) q)
  cases hko : keyOk ck
  · go_wp2_with fail
    go_ret
    exact ⟨by rw [HE.out]; simp [hko], hW _⟩
  · by_cases hs1 : cs < -2305843009213693952
    · go_wp2_with fail
      go_ret
      exact ⟨by rw [HE.out]; simp [hko, hs1], hW _⟩
    · by_cases hs2 : 2305843009213693952 < cs
      · go_wp2_with fail
        go_ret
        exact ⟨by rw [HE.out]; simp [hko, hs2], hW _⟩
      · have hny : ¬ y = 0 := by omega
        by_cases hmod : cs.tmod y = 0
        · have hmod' := (tmod_zero_iff (n := cs) (d := y) (by omega)).1 hmod
          have hm1 : (cs.tmod y != 0) = false := by simp [hmod]
          have hfin : ∀ r : Bool, r = shutC O ⟨i, ck, cs⟩ → mayE O ⟨i, ck, cs⟩ = if r = true then 26 else 0 := by
            intro r hr
            rw [HE.out, hr]
            simp [hko, hmod']; intro h; omega
          have hcl' := fun W hW => hcl W hW (by omega) (by omega)
          generalize shutC O ⟨i, ck, cs⟩ = sh at *
          go_wp2_with fail
          go_quiet (fail)
          go_wp2_with fail
          refine (hcl' _ (H.out.below (Below.drewN ((Below.refl _ _).alloc (Nat.le_refl _) _) _))).mono ?_
          rintro e w4 ⟨rfl, hb4⟩
          have hfb : Below w.heap.size w w4 := (Below.drewN ((Below.refl _ _).alloc (Nat.le_refl _) _) _).trans (hb4.mono (by simp))
          cases sh
          · go_wp2_with fail
            go_ret
            exact ⟨by rw [hfin false rfl]; rfl, hfb⟩
          · go_wp2_with fail
            go_ret
            exact ⟨by rw [hfin true rfl]; rfl, hfb⟩
        · have hm2 : (cs.tmod y != 0) = true := by simpa using hmod
          go_wp2_with fail
          go_quiet (fail)
          go_wp2_with fail
          go_ret
          refine ⟨?_, ?_⟩
          · rw [HE.out]
            have : ¬ cs % y = 0 := fun e => hmod ((tmod_zero_iff (by omega)).2 e)
            simp [hko, this, Int.not_lt.2 hs1, Int.not_lt.2 hs2]
          · exact Below.drewN (Below.drewN ((Below.refl _ _).alloc (Nat.le_refl _) _) _) _
theorem refMay_any (b : RefB) (O : Op14) (x : Int) (y : ByteArray) (z : Int) (w : World) (h : IsRef w b O) :
    Calls Try.prog 80 #[.pointer (some ⟨b.rp, 0, none⟩), .agg #[.int .i64 x, .string y, .int .i64 z]] w fun e w' => e = .returned (.int .i64 (mayE O ⟨x, y, z⟩)) ∧ Below w.heap.size w w' := by
  by_cases hv : x < 0 ∨ O.vs.length ≤ x
  · have hE : mayE O ⟨x, y, z⟩ = 23 := by unfold mayE; rw [if_pos hv]
    rw [hE]
    exact refMay_view b O x y z w h hv
  · obtain ⟨i, rfl⟩ := Int.eq_ofNat_of_zero_le (by omega : 0 ≤ x)
    exact refMay_in b O i y z w h (by omega)
end Go.Proofs.Ytheimbhnckaonaa
