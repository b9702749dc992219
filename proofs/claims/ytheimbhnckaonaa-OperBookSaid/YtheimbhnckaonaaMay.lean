/- The contract of an operator's may. -/
import Derived.Test.YtheimbhnckaonaaLive
import Derived.RegionTactic
import Derived.BigRegion
set_option linter.unusedVariables false
set_option linter.unusedSimpArgs false
namespace Go.Proofs.Ytheimbhnckaonaa
open Go.RowKit

/-- Whether a cell may be written: the error, or 0. -/
def mayE (O : Op14) (c : Cell) : Int :=
  if c.v < 0 ∨ O.vs.length ≤ c.v then 23
  else if keyOk c.k = false then 21
  else if c.s < -2305843009213693952 ∨ 2305843009213693952 < c.s then 22
  else if c.s % (O.vs.getD c.v.toNat default).slide ≠ 0 then 16
  else if (O.vs.getD c.v.toNat default).shut c.s (leastOf O.ms) = true then 26
  else 0

theorem tmod_zero_iff {n d : Int} (hd : 1 ≤ d) : n.tmod d = 0 ↔ n % d = 0 := by
  constructor
  · intro h; rw [← tmod_pos hd (by omega)]; exact h
  · intro h
    rcases Int.lt_or_le (n.tmod d) 0 with g | g
    · have e := tmod_neg hd g
      have := Int.emod_nonneg n (b := d) (by omega)
      have : n.tmod d = -d := by omega
      rw [Int.tmod_eq_emod] at this
      split at this
      · omega
      · rename_i hc
        exact absurd (Or.inr (Int.dvd_of_emod_eq_zero h)) hc
    · rw [tmod_pos hd g]; exact h

set_option maxHeartbeats 1000000 in
theorem may_view (b : OpB) (O : Op14) (cv : Int) (ck : ByteArray) (cs : Int) (w : World) (h : IsOper w b O) (hv : cv < 0 ∨ O.vs.length ≤ cv) :
    Calls Try.prog 58 #[.pointer (some ⟨b.bp, 0, none⟩), .agg #[.int .i64 cv, .string ck, .int .i64 cs]] w fun e w' => e = .returned (.int .i64 23) ∧ Below w.heap.size w w' := by
  obtain ⟨c0, c1, c2, c3, c4⟩ := h.cells
  have hlt := h.lt.1
  clear h c1 c2 c3 c4
  go_enter Try.func58, Try.ntmps58
  go_wp2_with fail
  rcases hv with hv | hv
  · have d0 : decide (cv < 0) = true := by simpa using hv
    go_quiet (fail)
    go_wp2_with fail
    go_ret
    exact ⟨rfl, Below.drewN ((Below.refl _ _).alloc (Nat.le_refl _) _) _⟩
  · have d0 : decide (cv < 0) = false := by simp; omega
    have d1 : decide ((O.vs.length : Int) ≤ cv) = true := by simpa using hv
    go_quiet (fail)
    go_wp2_with fail
    go_ret
    exact ⟨rfl, Below.drewN ((Below.refl _ _).alloc (Nat.le_refl _) _) _⟩

set_option maxHeartbeats 2000000 in
theorem may_in (b : OpB) (O : Op14) (i : Nat) (ck : ByteArray) (cs : Int) (w : World) (h : IsOper w b O) (hi : i < O.vs.length) :
    Calls Try.prog 58 #[.pointer (some ⟨b.bp, 0, none⟩), .agg #[.int .i64 i, .string ck, .int .i64 cs]] w fun e w' => e = .returned (.int .i64 (mayE O ⟨i, ck, cs⟩)) ∧ Below w.heap.size w w' := by
  have hE : mayE O ⟨i, ck, cs⟩ = if keyOk ck = false then 21 else if cs < -2305843009213693952 ∨ 2305843009213693952 < cs then 22 else if cs % O.vs[i].slide ≠ 0 then 16 else if O.vs[i].shut cs (leastOf O.ms) = true then 26 else 0 := by
    unfold mayE
    simp only
    rw [if_neg (by omega), Int.toNat_natCast, List.getD_eq_getElem?_getD, List.getElem?_eq_getElem hi]
    rfl
  have HE := Lib.hid hE
  obtain ⟨c0, c1, c2, c3, c4⟩ := h.cells
  have hlt := h.lt.1
  have hok := h.vok O.vs[i] (List.getElem_mem _)
  have hok' := (View.ok_iff _).1 hok
  obtain ⟨vb, vo, hav, hvb, v0, v1, v2⟩ := h.views.at3 hi rfl
  have hl := fun W hW => operLeast_any b O W hW
  have hkey := fun W => isKey_any ck W
  have H := Lib.hid h
  have hv4 := h.vhi
  clear h hE c1 c2 c3 c4
  rw [hav] at c0
  go_enter Try.func58, Try.ntmps58
  go_wp2_with fail
  have d0 : decide ((i : Int) < 0) = false := by simp
  have d1 : decide ((O.vs.length : Int) ≤ (i : Int)) = false := by simp; omega
  go_quiet (fail)
  go_wp2_with fail
  generalize hx : O.vs[i].size = x at *
  generalize hy : O.vs[i].slide = y at *
  generalize hz : O.vs[i].late = z at *
  have Hx := Lib.hid hx
  have Hy := Lib.hid hy
  have Hz := Lib.hid hz
  clear hx hy hz
  have hW : ∀ q, Below w.heap.size w (((w.alloc (.cells #[.int .i64 i, .string ck, .int .i64 cs] 51)).drewN q).alloc (.cells #[.int .i64 x, .int .i64 y, .int .i64 z] 49)) := fun q => (Below.drewN ((Below.refl _ _).alloc (Nat.le_refl _) _) q).alloc (by show _ ≤ (w.alloc _).heap.size; simp) _
  go_region
  go_wp2_with fail
  refine (hkey _).mono ?_
  rintro e w2 ⟨rfl, hw2⟩
  subst hw2
  cases hko : keyOk ck
  · go_wp2_with fail
    go_ret
    exact ⟨by rw [HE.out]; simp [hko], hW _⟩
  · by_cases hs1 : cs < -2305843009213693952
    · go_wp2_with fail
      go_ret
      exact ⟨by rw [HE.out]; simp [hko, hs1], hW _⟩
    · by_cases hs2 : 2305843009213693952 < cs
      · go_wp2_with fail
        go_ret
        exact ⟨by rw [HE.out]; simp [hko, hs2], hW _⟩
      · by_cases hmod : cs.tmod y = 0
        · have hcl := fun W => closed_any x y z cs (leastOf O.ms) W ((View.ok_iff _).2 hok') (by omega) (by omega)
          have hfin : ∀ r : Bool, r = View.shut ⟨x, y, z⟩ cs (leastOf O.ms) → mayE O ⟨i, ck, cs⟩ = if r = true then 26 else 0 := by
            intro r hr
            have hmod' := (tmod_zero_iff (n := cs) (d := y) (by omega)).1 hmod
            rw [HE.out, show O.vs[i] = ⟨x, y, z⟩ from by rw [← Hx.out, ← Hy.out, ← Hz.out], hr]
            simp [hko, hmod']; intro h; omega
          generalize View.shut ⟨x, y, z⟩ cs (leastOf O.ms) = sh at *
          have kp : ∀ w', Below (w.heap.size + 2) (((w.alloc (.cells #[.int .i64 i, .string ck, .int .i64 cs] 51)).drewN (nq + 1)).alloc (.cells #[.int .i64 x, .int .i64 y, .int .i64 z] 49)) w' → (Below (w.heap.size + 2) (((w.alloc (.cells #[.int .i64 i, .string ck, .int .i64 cs] 51)).drewN (nq + 1)).alloc (.cells #[.int .i64 x, .int .i64 y, .int .i64 z] 49)) w' ∧ w'.cell? ⟨w.heap.size, 2, none⟩ = some (.int .i64 cs) ∧ w'.cell? ⟨w.heap.size + 1, 0, none⟩ = some (.int .i64 x) ∧ w'.cell? ⟨w.heap.size + 1, 1, none⟩ = some (.int .i64 y) ∧ w'.cell? ⟨w.heap.size + 1, 2, none⟩ = some (.int .i64 z)) := by
            intro w' h
            refine ⟨h, ?_, ?_, ?_, ?_⟩ <;> (rw [h.cell (by simp)]; go_simp)
          have hop : ∀ w', Below (w.heap.size + 2) (((w.alloc (.cells #[.int .i64 i, .string ck, .int .i64 cs] 51)).drewN (nq + 1)).alloc (.cells #[.int .i64 x, .int .i64 y, .int .i64 z] 49)) w' → IsOper w' b O := fun w' h => H.out.below ((hW _).trans (h.mono (by omega)))
          go_wp2_with fail
          go_region_held3 (fun w' => Below (w.heap.size + 2) (((w.alloc (.cells #[.int .i64 i, .string ck, .int .i64 cs] 51)).drewN (nq + 1)).alloc (.cells #[.int .i64 x, .int .i64 y, .int .i64 z] 49)) w' ∧ w'.cell? ⟨w.heap.size, 2, none⟩ = some (.int .i64 cs) ∧ w'.cell? ⟨w.heap.size + 1, 0, none⟩ = some (.int .i64 x) ∧ w'.cell? ⟨w.heap.size + 1, 1, none⟩ = some (.int .i64 y) ∧ w'.cell? ⟨w.heap.size + 1, 2, none⟩ = some (.int .i64 z)) (first | exact kp _ (Below.refl _ _).drew | assumption)
            (first | (go_at_call 23; refine (hl _ (hop _ (Below.refl _ _).drew)).mono ?_; rintro e w' ⟨rfl, rfl⟩) | (go_at_call 27; refine (hcl _).mono ?_; rintro e w4 ⟨rfl, hb4⟩; have hk4 := kp _ ((Below.refl _ _).drew.trans (hb4.mono (by simp)))))
          have hfb : Below w.heap.size w w4 := (hW _).trans (hk4.1.mono (by omega))
          cases sh
          · go_wp2_with fail
            go_ret
            exact ⟨by rw [hfin false rfl]; rfl, hfb⟩
          · go_wp2_with fail
            go_ret
            exact ⟨by rw [hfin true rfl]; rfl, hfb⟩
        · have hm2 : (cs.tmod y != 0) = true := by simpa using hmod
          go_wp2_with fail
          go_ret
          refine ⟨?_, ?_⟩
          · rw [HE.out]
            have : ¬ cs % y = 0 := fun e => hmod ((tmod_zero_iff (by omega)).2 e)
            simp [hko, this, Int.not_lt.2 hs1, Int.not_lt.2 hs2]
          · exact hW _
end Go.Proofs.Ytheimbhnckaonaa
