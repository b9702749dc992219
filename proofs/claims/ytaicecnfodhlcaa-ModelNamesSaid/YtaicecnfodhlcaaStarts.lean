/- Contracts of package pane: Starts, Open. -/
import Derived.Test.YtaicecnfodhlcaaPane
import Derived.Deep.OwnRows
import Derived.Deep.LoopGhost
set_option linter.unusedVariables false
set_option linter.unusedSimpArgs false
namespace Go.Proofs.Ytaicecnfodhlcaa
open Go.RowKit

def View.last (v : View) (t : Int) : Int := t / v.slide * v.slide
/-- How many windows have the time t. -/
def View.cnt (v : View) (t : Int) : Nat := ((v.last t + v.size - t + v.slide - 1) / v.slide).toNat
/-- The windows that have the time t, rising. -/
def View.starts (v : View) (t : Int) : List Int := (List.range (v.cnt t)).map fun (i : Nat) => v.last t - ((v.cnt t : Int) - 1 - i) * v.slide

theorem last_bounds {v : View} (hv : v.ok = true) (t : Int) : v.last t ≤ t ∧ t - v.slide < v.last t := by
  have hv' := (View.ok_iff _).1 hv
  unfold View.last
  rw [floor_eq]
  have m0 := Int.emod_nonneg t (b := v.slide) (by omega)
  have m1 := Int.emod_lt_of_pos t (b := v.slide) (by omega)
  omega

/-- The first k that does not fit is the count. -/
theorem cnt_eq {v : View} (hv : v.ok = true) (t : Int) (k : Nat) (h1 : 1 ≤ k → t < v.last t - ((k : Int) - 1) * v.slide + v.size) (h2 : v.last t - (k : Int) * v.slide + v.size ≤ t) : k = v.cnt t := by
  have hv' := (View.ok_iff _).1 hv
  unfold View.cnt
  have hs : 0 < v.slide := by omega
  rcases Nat.eq_zero_or_pos k with rfl | hk
  · have : (v.last t + v.size - t + v.slide - 1) / v.slide < 1 := Int.ediv_lt_of_lt_mul hs (by simp at h2; omega)
    omega
  · have e1 : ((k : Int) - 1) * v.slide = k * v.slide - v.slide := by rw [Int.sub_mul]; omega
    have h1' := h1 hk
    rw [e1] at h1'
    have a1 : (k : Int) ≤ (v.last t + v.size - t + v.slide - 1) / v.slide := (Int.le_ediv_iff_mul_le hs).2 (by omega)
    have e2 : ((k : Int) + 1) * v.slide = k * v.slide + v.slide := by rw [Int.add_mul]; omega
    have a2 : (v.last t + v.size - t + v.slide - 1) / v.slide < (k : Int) + 1 := Int.ediv_lt_of_lt_mul hs (by rw [e2]; omega)
    omega

theorem cnt_le {v : View} (hv : v.ok = true) (t : Int) : v.cnt t ≤ 64 := by
  have hv' := (View.ok_iff _).1 hv
  have hl := last_bounds hv t
  unfold View.cnt
  have : (v.last t + v.size - t + v.slide - 1) / v.slide < 65 := Int.ediv_lt_of_lt_mul (by omega) (by omega)
  omega

theorem starts_length (v : View) (t : Int) : (v.starts t).length = v.cnt t := by simp [View.starts]
theorem starts_get (v : View) (t : Int) (i : Nat) (hi : i < (v.starts t).length) : (v.starts t)[i] = v.last t - ((v.cnt t : Int) - 1 - i) * v.slide := by simp [View.starts]
theorem st_i64 : SlT Try.prog 113 2 1 8 := SlT.mk' (z := .int .i64 0) Try.underlying113 (by decide) (by kernel_rfl) rfl
theorem info_i64 : (Try.prog.info? 2).map (fun i => (i.zero, i.size, i.bytes)) = some (some (.int .i64 0), 1, 8) := by kernel_rfl

set_option maxHeartbeats 1000000 in
theorem starts_any (a b c t : Int) (w : World) (hv : View.ok ⟨a, b, c⟩ = true) (ht : -1152921504606846976 ≤ t) (ht2 : t ≤ 1152921504606846976) :
    Calls Try.prog 52 #[.agg #[.int .i64 a, .int .i64 b, .int .i64 c], .int .i64 t] w fun e w' => ∃ v, e = .returned (.tuple #[v, .int .i64 0]) ∧ Own 2 1 i64L w.heap.size w' v (View.starts ⟨a, b, c⟩ t) ∧ Below w.heap.size w w' := by
  have hv' := (View.ok_iff _).1 hv
  simp only at hv'
  have hchk : View.chk ⟨a, b, c⟩ = 0 := by simp [View.chk, hv]
  have hlb := last_bounds hv t
  have hle : View.last ⟨a, b, c⟩ t = t / b * b := rfl
  rw [hle] at hlb
  simp only at hlb
  go_enter Try.func52, Try.ntmps52
  go_wp2_with fail
  refine (check_any _ _ _ _).mono ?_
  rw [hchk]
  rintro e w1 ⟨rfl, hb1⟩
  obtain ⟨hc1, hf1⟩ := bcell hb1
  have hz1 : w.heap.size + 1 ≤ w1.heap.size := by have := hb1.size; simp at this; omega
  have c0 : w1.cell? ⟨w.heap.size, 0, none⟩ = some (.int .i64 a) := by rw [hc1 _ _ (by simp)]; go_simp
  have c1 : w1.cell? ⟨w.heap.size, 1, none⟩ = some (.int .i64 b) := by rw [hc1 _ _ (by simp)]; go_simp
  have c2 : w1.cell? ⟨w.heap.size, 2, none⟩ = some (.int .i64 c) := by rw [hc1 _ _ (by simp)]; go_simp
  clear hc1 hf1 hle hchk
  go_wp2_with fail
  refine (floor_any _ _ _ (by omega) (by omega) (by omega) (by omega)).mono ?_
  rintro e w' ⟨rfl, rfl⟩
  generalize hL : t / b * b = L at *
  have HL := Lib.hid hL
  clear hL
  go_wp2_with fail
  go_loop [8, 9, 27] (fun n _ i => ∃ k : Nat, k ≤ 64 ∧ i = .int .i64 k ∧ n = .int .i64 k ∧ (1 ≤ k → t < L - ((k : Int) - 1) * b + a)) (fun _ _ i => 65 - (intOf i).toNat)
  case atStart => exact ⟨0, by omega, rfl, rfl, by omega⟩
  case round =>
    obtain ⟨k, hk, rfl, rfl, hlt⟩ := hrel
    have p0 : 0 ≤ (k : Int) * b := Int.mul_nonneg (by omega) (by omega)
    have p1 : (k : Int) * b ≤ 64 * b := Int.mul_le_mul_of_nonneg_right (by omega) (by omega)
    have Hlt := Lib.hid hlt
    clear hlt
    by_cases hc : t < L - (k : Int) * b + a
    · have hk64 : k < 64 := by
        rcases Nat.lt_or_ge k 64 with h | h
        · exact h
        · obtain rfl : k = 64 := by omega
          omega
      go_wp2
      go_round
      case rel => exact ⟨k + 1, by omega, by go_num, by go_num, fun _ => by rw [show ((k + 1 : Nat) : Int) - 1 = k from by omega]; exact hc⟩
      case measure => simp [intOf]; omega
    · have hcnt : k = View.cnt ⟨a, b, c⟩ t := cnt_eq hv t k (fun h => by rw [show View.last ⟨a, b, c⟩ t = L from HL.out]; exact Hlt.out h) (by rw [show View.last ⟨a, b, c⟩ t = L from HL.out]; simp only; omega)
      have Hcnt := Lib.hid hcnt
      clear hcnt
      have hmk := run_make_row' (P := Try.prog) 113 2 (.int .i64 0) 8 Try.underlying113 info_i64 rfl .i64 .i64 k (by omega) (by omega)
      go_wp2
      clear hmk
      go_loopw [11, 47] (fun _ i wr => ∃ j : Nat, j ≤ k ∧ i = .int .i64 j ∧ wr.rowIs w1.heap.size 2 k (fun q => .int .i64 (if q < j then L - ((k : Int) - 1 - q) * b else 0)) ∧ Below w1.heap.size w1 wr ∧ w1.heap.size + 1 ≤ wr.heap.size) (fun _ i _ => k - (intOf i).toNat)
      case atStart =>
        refine ⟨0, by omega, rfl, ?_, (Below.refl _ _).alloc (Nat.le_refl _) _, by simp⟩
        exact (World.rowIs_made _ _ _ _).congr (fun q _ => by simp)
      case round =>
        obtain ⟨j, hj, rfl, hrow, hbr, hzr⟩ := hrel
        have d1 : wr.cell? ⟨w.heap.size, 1, none⟩ = some (.int .i64 b) := by rw [hbr.cell (by simp; omega)]; exact c1
        have q0 : 0 ≤ ((k : Int) - 1 - j) * b ∨ ¬ j < k := by
          by_cases h : j < k
          · left; exact Int.mul_nonneg (by omega) (by omega)
          · right; exact h
        have q1 : ((k : Int) - 1 - j) * b ≤ 64 * b := Int.mul_le_mul_of_nonneg_right (by omega) (by omega)
        have Hrow := Lib.hid hrow
        clear hrow
        by_cases hlt : j < k
        · have q0' : 0 ≤ ((k : Int) - 1 - j) * b := by omega
          have e1 := Hrow.out.cell hlt
          have e2 := Hrow.out.frozen j
          rw [if_neg (Nat.lt_irrefl j)] at e1
          clear q0
          go_wp2
          go_round
          case rel =>
            refine ⟨j + 1, by omega, by go_num, ?_, ?_, ?_⟩
            · refine (Hrow.out.set j _).congr fun q hq => ?_
              by_cases h1 : q = j
              · subst h1; simp
              · by_cases h2 : q < j
                · rw [if_neg h1, if_pos h2, if_pos (by omega)]
                · rw [if_neg h1, if_neg h2, if_neg (by omega)]
            · exact hbr.setCell (by simp) _
            · simpa using hzr
          case measure => simp [intOf]; omega
        · obtain rfl : j = k := by omega
          go_wp2
          go_ret2
          refine ⟨.slice (some ⟨w1.heap.size, 0, none⟩) j j, rfl, ?_, ?_⟩
          · have ho := Own.of_row (xs := View.starts ⟨a, b, c⟩ t) (enc := i64L) (B := w.heap.size) Hrow.out (by omega) (by unfold maxLen; omega) (by rw [starts_length]; exact Hcnt.out.symm) (fun i hi => by
              rw [starts_get, ← Hcnt.out, show View.last ⟨a, b, c⟩ t = L from HL.out]
              rw [starts_length, ← Hcnt.out] at hi
              simp [hi]) (fun _ => rfl)
            rw [show (View.starts ⟨a, b, c⟩ t).length = j from by rw [starts_length]; exact Hcnt.out.symm] at ho
            exact ho
          · exact ((Below.refl _ _).alloc (Nat.le_refl _) _).trans ((hb1.mono (by simp)).trans (hbr.mono (by omega)))
theorem Sl.at_i64 {w : World} {a : Option Addr} {xs : List Int} (h : Sl 1 i64L w a xs) {i : Nat} (hi : i < xs.length) :
    ∃ b off, a = some ⟨b, off, none⟩ ∧ b < w.heap.size ∧ w.cell? ⟨b, off + i, none⟩ = some (.int .i64 xs[i]) := by
  obtain ⟨b, off, e, hlt, hc⟩ := h.at1 hi rfl
  exact ⟨b, off, e, hlt, by simpa using hc⟩

/-- The windows of a time that are open under a mark. -/
def View.opens (v : View) (t m : Int) : List Int := (v.starts t).filter fun s => !v.shut s m

/-- The windows of a time rise. -/
theorem starts_mono {v : View} (hv : v.ok = true) (t : Int) : ∀ i j (hi : i < (v.starts t).length) (hj : j < (v.starts t).length), i ≤ j → (v.starts t)[i] ≤ (v.starts t)[j] := by
  have hv' := (View.ok_iff _).1 hv
  intro i j hi hj hij
  rw [starts_get, starts_get]
  have : ((v.cnt t : Int) - 1 - j) * v.slide ≤ ((v.cnt t : Int) - 1 - i) * v.slide := Int.mul_le_mul_of_nonneg_right (by omega) (by omega)
  omega
theorem starts_bounds {v : View} (hv : v.ok = true) {t : Int} (ht : -1152921504606846976 ≤ t) (ht2 : t ≤ 1152921504606846976) : ∀ s ∈ v.starts t, -1153062242095202304 ≤ s ∧ s ≤ 1152921504606846976 := by
  have hv' := (View.ok_iff _).1 hv
  have hl := last_bounds hv t
  have hc := cnt_le hv t
  intro s hs
  obtain ⟨i, hi, rfl⟩ := List.getElem_of_mem hs
  rw [starts_get]
  rw [starts_length] at hi
  have a1 : ((v.cnt t : Int) - 1 - i) * v.slide ≤ 64 * v.slide := Int.mul_le_mul_of_nonneg_right (by omega) (by omega)
  have a0 : 0 ≤ ((v.cnt t : Int) - 1 - i) * v.slide := Int.mul_nonneg (by omega) (by omega)
  omega

theorem shut_mono {v : View} {s s' m : Int} (h : s ≤ s') (hs : v.shut s m = false) : v.shut s' m = false := by
  unfold View.shut at *
  simp at *
  omega
/-- From the first one that is open on all are. -/
theorem drop_eq_filter {v : View} {xs : List Int} {m : Int} {j : Nat} {hj : j < xs.length} (h : ∀ q (hq : q < xs.length), q < j → v.shut xs[q] m = true) (hs : v.shut xs[j] m = false)
    (hm : ∀ i j (hi : i < xs.length) (hj : j < xs.length), i ≤ j → xs[i] ≤ xs[j]) : xs.filter (fun s => !v.shut s m) = xs.drop j := by
  conv => lhs; rw [← List.take_append_drop j xs]
  rw [List.filter_append]
  have e1 : (xs.take j).filter (fun s => !v.shut s m) = [] := by
    rw [List.filter_eq_nil_iff]
    intro s hs'
    obtain ⟨q, hq, rfl⟩ := List.getElem_of_mem hs'
    simp at hq
    rw [List.getElem_take]
    simp [h q (by omega) (by omega)]
  have e2 : (xs.drop j).filter (fun s => !v.shut s m) = xs.drop j := by
    rw [List.filter_eq_self]
    intro s hs'
    obtain ⟨q, hq, rfl⟩ := List.getElem_of_mem hs'
    simp at hq
    rw [List.getElem_drop]
    simp [shut_mono (hm j (j + q) hj (by omega) (by omega)) hs]
  rw [e1, e2]; rfl

set_option maxHeartbeats 1000000 in
theorem open_any (a b c t m : Int) (w : World) (hv : View.ok ⟨a, b, c⟩ = true) (ht : -1152921504606846976 ≤ t) (ht2 : t ≤ 1152921504606846976) :
    Calls Try.prog 53 #[.agg #[.int .i64 a, .int .i64 b, .int .i64 c], .int .i64 t, .int .i64 m] w fun e w' => ∃ v, e = .returned (.tuple #[v, .int .i64 0]) ∧ Own 2 1 i64L w.heap.size w' v (View.opens ⟨a, b, c⟩ t m) ∧ Below w.heap.size w w' := by
  have hst := fun w => starts_any a b c t w hv ht ht2
  have hcl : (View.starts ⟨a, b, c⟩ t).length ≤ 64 := by rw [starts_length]; exact cnt_le hv t
  rw [show View.opens ⟨a, b, c⟩ t m = (View.starts ⟨a, b, c⟩ t).filter (fun s => !View.shut ⟨a, b, c⟩ s m) from rfl]
  have hmono := starts_mono hv t
  have hbd := starts_bounds hv ht ht2
  generalize View.starts ⟨a, b, c⟩ t = xs at *
  go_enter Try.func53, Try.ntmps53
  go_wp2_with fail
  go_step3
  go_wp2_with fail
  refine (hst _).mono ?_
  clear hst
  rintro e w1 ⟨v, rfl, hown, hb1⟩
  obtain ⟨o, cap, rfl, hcap, hsl, hov, hun⟩ := hown.sl fun _ => rfl
  have Hown := Lib.hid hown
  clear hown
  obtain ⟨hc1, hf1⟩ := bcell hb1
  have hz1 : w.heap.size + 1 ≤ w1.heap.size := by have := hb1.size; simp at this; omega
  have c0 : w1.cell? ⟨w.heap.size, 0, none⟩ = some (.int .i64 a) := by rw [hc1 _ _ (by simp)]; go_simp
  have c1 : w1.cell? ⟨w.heap.size, 1, none⟩ = some (.int .i64 b) := by rw [hc1 _ _ (by simp)]; go_simp
  have c2 : w1.cell? ⟨w.heap.size, 2, none⟩ = some (.int .i64 c) := by rw [hc1 _ _ (by simp)]; go_simp
  clear hc1 hf1
  go_wp2_with fail
  go_step3
  go_wp2_with fail
  go_loopg [10, 24] xs.length (fun g x i wr => ∃ j : Nat, j + g = xs.length ∧ i = .int .i64 j ∧ x = .slice none 0 0 ∧ Below w1.heap.size w1 wr ∧ (∀ q (hq : q < xs.length), q < j → View.shut ⟨a, b, c⟩ xs[q] m = true))
  case atStart => exact ⟨0, by omega, rfl, rfl, Below.refl _ _, fun q _ h => absurd h (Nat.not_lt_zero _)⟩
  case round =>
    obtain ⟨j, hj, rfl, rfl, hbr, hall⟩ := hrel
    have Hall := Lib.hid hall
    clear hall
    have Hj := Lib.hid hj
    clear hj
    by_cases hlt : j < xs.length
    · obtain ⟨ob, oo, rfl, hob, hcj⟩ := hsl.at_i64 (i := j) hlt
      have hcj' : wr.cell? ⟨ob, oo + j, none⟩ = some (.int .i64 xs[j]) := by rw [hbr.cell (by simpa using hob)]; exact hcj
      have d0 : wr.cell? ⟨w.heap.size, 0, none⟩ = some (.int .i64 a) := by rw [hbr.cell (by simp; omega)]; exact c0
      have d1 : wr.cell? ⟨w.heap.size, 1, none⟩ = some (.int .i64 b) := by rw [hbr.cell (by simp; omega)]; exact c1
      have d2 : wr.cell? ⟨w.heap.size, 2, none⟩ = some (.int .i64 c) := by rw [hbr.cell (by simp; omega)]; exact c2
      clear hcj
      have Hs := hbd xs[j] (List.getElem_mem _)
      generalize hxj : xs[j] = s at *
      have Hxj := Lib.hid hxj
      clear hxj
      go_wp2_with fail
      refine wp_loop_rounds 2 ?_
      rw [rounds_succ]
      go_wp2_with fail
      refine (closed_any _ _ _ _ _ _ hv (by omega) (by omega)).mono ?_
      rintro e w2 ⟨rfl, hb2⟩
      cases hsh : View.shut ⟨a, b, c⟩ s m
      · go_wp2_with fail
        rw [rounds_succ]
        have hne : ¬ cap = j := by omega
        go_wp2_with (at_builtin; go_loud (refine wpList_app st_i64 rfl _ _ rfl i64L (fun _ => rfl) cells1_i64 w.heap.size _ [] rfl (Own.nil _ _ _ _ _) (some ⟨ob, oo + j, none⟩) (xs.length - j) (cap - j) (xs.drop j) rfl ?c1 ?c2 ?c3 ?c4 ?c5 ?_))
        case c1 => simp
        case c2 =>
          have h2 := (Sl.belowB (hsl.belowB hbr hun) hb2 (hun.mono hbr.size)).drop j
          simpa using h2
        case c3 => simp; omega
        case c4 => decide
        case c5 => have := hbr.size; have := hb2.size; omega
        intro v' w3 hown' hgr _
        have hz3 : w.heap.size ≤ w2.heap.size := by have := hbr.size; have := hb2.size; omega
        go_wp2
        try rw [Exit.noGoto_ret]
        go_ret2
        refine ⟨v', rfl, ?_, ?_⟩
        · rw [drop_eq_filter Hall.out (by rw [Hxj.out]; exact hsh) hmono]; exact hown'
        · refine Below.grown ?_ hgr hz3 (fun k hk => by cases hk)
          exact ((Below.refl _ _).alloc (Nat.le_refl _) _).trans ((hb1.mono (by simp)).trans ((hbr.mono (by omega)).trans (hb2.mono (by have := hbr.size; omega))))
      · go_wp2_with fail
        go_roundg (gk - 1)
        case measure => have := Hj.out; omega
        case rel =>
          refine ⟨j + 1, by have := Hj.out; omega, by go_num, rfl, hbr.trans (hb2.mono (hbr.size)), fun q hq hlt' => ?_⟩
          by_cases e : q = j
          · subst e; rw [Hxj.out]; exact hsh
          · exact Hall.out q hq (by omega)
    · go_wp2_with fail
      try rw [Exit.noGoto_ret]
      go_ret2
      refine ⟨.slice none 0 0, rfl, ?_, ?_⟩
      · have e0 : xs.filter (fun s => !View.shut ⟨a, b, c⟩ s m) = [] := by
          rw [List.filter_eq_nil_iff]
          intro s hs
          obtain ⟨q, hq, rfl⟩ := List.getElem_of_mem hs
          simp [Hall.out q hq (by omega)]
        rw [e0]
        exact Own.nil _ _ _ _ _
      · exact ((Below.refl _ _).alloc (Nat.le_refl _) _).trans ((hb1.mono (by simp)).trans (hbr.mono (by omega)))
end Go.Proofs.Ytaicecnfodhlcaa
