/- Contracts of the references of windows and of the order. -/
import Derived.Test.YtheimbhnckaonaaMarkO
import Derived.BigQuiet
set_option linter.unusedVariables false
set_option linter.unusedSimpArgs false
namespace Go.Proofs.Ytheimbhnckaonaa
open Go.RowKit

theorem below_any (n d : Int) (w : World) (hd : 1 ≤ d) (hd2 : d ≤ 1099511627776) (hn : -2305843009213693952 ≤ n) (hn2 : n ≤ 2305843009213693952) :
    Calls Try.prog 89 #[.int .i64 n, .int .i64 d] w fun e w' => e = .returned (.int .i64 (n / d * d)) ∧ w = w' := by
  have m0 := Int.emod_nonneg n (b := d) (by omega)
  have m1 := Int.emod_lt_of_pos n (b := d) (by omega)
  have hq := Int.mul_tdiv_add_tmod n d
  have hf := floor_eq n d
  have hfl : n.tmod d < 0 → (n.tdiv d - 1) * d = n / d * d := by
    intro h
    have e := tmod_neg hd h
    have : d * n.tdiv d = n.tdiv d * d := Int.mul_comm _ _
    rw [Int.sub_mul]; omega
  have hfp : 0 ≤ n.tmod d → n.tdiv d * d = n / d * d := by
    intro h
    have e := tmod_pos hd h
    have : d * n.tdiv d = n.tdiv d * d := Int.mul_comm _ _
    omega
  have hb1 : -2305843009213693952 ≤ n.tdiv d ∧ n.tdiv d ≤ 2305843009213693952 := by
    have h1 := Int.natAbs_tdiv_le_natAbs n d
    omega
  have hnd : ¬ d = 0 := by omega
  have Hf := Lib.hid hf
  have Hfl := Lib.hid hfl
  have Hfp := Lib.hid hfp
  clear hf hfl hfp hq
  go_enter Try.func89, Try.ntmps89
  go_wp2
  all_goals go_ret
  · refine ⟨ret_int ?_, rfl⟩
    have h : n.tmod d < 0 := by assumption
    have e := Hfl.out h
    have e2 := Hf.out
    unfold wrap64
    try rw [e]
    omega
  · refine ⟨ret_int ?_, rfl⟩
    have h : 0 ≤ n.tmod d := by assumption
    have e := Hfp.out h
    have e2 := Hf.out
    unfold wrap64
    try rw [e]
    omega

set_option maxHeartbeats 1000000 in
theorem refCheck_any (a b c : Int) (w : World) : Calls Try.prog 49 #[.agg #[.int .i64 a, .int .i64 b, .int .i64 c]] w fun e w' => e = .returned (.int .i64 (View.chk ⟨a, b, c⟩)) ∧ Below w.heap.size w w' := by
  go_enter Try.func49, Try.ntmps49
  go_wp2
  all_goals go_ret
  all_goals exact ⟨ret_int (by simp [View.chk, View.ok]; omega), (Below.refl _ _).alloc (Nat.le_refl _) _⟩

/-- Where the windows of a time begin: behind the greatest step at or below the time less the size. -/
theorem starts_first {v : View} (hv : v.ok = true) (t : Int) : (t - v.size) / v.slide * v.slide = v.last t - (v.cnt t : Int) * v.slide := by
  have hv' := (View.ok_iff _).1 hv
  have hs : 0 < v.slide := by omega
  have hl := last_bounds hv t
  have hk : 0 ≤ (v.last t + v.size - t + v.slide - 1) / v.slide := Int.ediv_nonneg (by omega) (by omega)
  have hc : (v.cnt t : Int) = (v.last t + v.size - t + v.slide - 1) / v.slide := by unfold View.cnt; omega
  have hd := Int.mul_ediv_add_emod (v.last t + v.size - t + v.slide - 1) v.slide
  have m0 := Int.emod_nonneg (v.last t + v.size - t + v.slide - 1) (b := v.slide) (by omega)
  have m1 := Int.emod_lt_of_pos (v.last t + v.size - t + v.slide - 1) hs
  rw [← hc, Int.mul_comm] at hd
  have hlast : v.last t = t / v.slide * v.slide := rfl
  have e : (t - v.size) / v.slide = t / v.slide - v.cnt t := by
    have h1 : t / v.slide - v.cnt t ≤ (t - v.size) / v.slide := (Int.le_ediv_iff_mul_le hs).2 (by rw [Int.sub_mul, ← hlast]; omega)
    have h2 : (t - v.size) / v.slide < t / v.slide - v.cnt t + 1 := Int.ediv_lt_of_lt_mul hs (by rw [Int.add_mul, Int.sub_mul, ← hlast]; omega)
    omega
  rw [e, Int.sub_mul, ← hlast]

set_option maxHeartbeats 1000000 in
theorem refStarts_any (a b c t : Int) (w : World) (hv : View.ok ⟨a, b, c⟩ = true) (ht : -1152921504606846976 ≤ t) (ht2 : t ≤ 1152921504606846976) :
    Calls Try.prog 65 #[.agg #[.int .i64 a, .int .i64 b, .int .i64 c], .int .i64 t] w fun e w' => ∃ v, e = .returned (.tuple #[v, .int .i64 0]) ∧ Own 2 1 i64L w.heap.size w' v (View.starts ⟨a, b, c⟩ t) ∧ Below w.heap.size w w' := by
  have hv' := (View.ok_iff _).1 hv
  simp only at hv'
  have hchk : View.chk ⟨a, b, c⟩ = 0 := by simp [View.chk, hv]
  have hf := starts_first hv t
  have hlb := last_bounds hv t
  have hcl := cnt_le hv t
  have hsl := starts_length ⟨a, b, c⟩ t
  have hsg := starts_get ⟨a, b, c⟩ t
  generalize View.starts ⟨a, b, c⟩ t = L at *
  generalize View.last ⟨a, b, c⟩ t = z at *
  generalize View.cnt ⟨a, b, c⟩ t = n at *
  simp only at hf hlb hcl hsg
  have hbm := fun W => below_any (t - a) b W (by omega) (by omega) (by omega) (by omega)
  rw [hf] at hbm
  have hwr : IntKind.i64.wrap (t - a) = t - a := by rw [IntKind.wrap_i64]; omega
  rw [← hwr] at hbm
  clear hwr
  have p0 : 0 ≤ (n : Int) * b := Int.mul_nonneg (by omega) (by omega)
  have p1 : (n : Int) * b ≤ 64 * b := Int.mul_le_mul_of_nonneg_right (by omega) (by omega)
  have Hsg := Lib.hid hsg
  clear hsg hf
  go_enter Try.func65, Try.ntmps65
  go_wp2_with fail
  refine (refCheck_any _ _ _ _).mono ?_
  rw [hchk]
  rintro e w1 ⟨rfl, hb1⟩
  obtain ⟨hc1, hf1⟩ := bcell hb1
  have hz1 : w.heap.size + 1 ≤ w1.heap.size := by have := hb1.size; simp at this; omega
  have c0 : w1.cell? ⟨w.heap.size, 0, none⟩ = some (.int .i64 a) := by rw [hc1 _ _ (by simp)]; go_simp
  have c1 : w1.cell? ⟨w.heap.size, 1, none⟩ = some (.int .i64 b) := by rw [hc1 _ _ (by simp)]; go_simp
  have c2 : w1.cell? ⟨w.heap.size, 2, none⟩ = some (.int .i64 c) := by rw [hc1 _ _ (by simp)]; go_simp
  clear hc1 hf1 hchk
  go_wp2_with fail
  go_region_held3 (fun w' => w'.cell? ⟨w.heap.size, 0, none⟩ = some (.int .i64 a) ∧ w'.cell? ⟨w.heap.size, 1, none⟩ = some (.int .i64 b)) (first | assumption | go_keep) (first | (go_at_call 89; refine (hbm _).mono ?_; rintro e w' ⟨rfl, rfl⟩))
  go_wp2_with fail
  go_loopg [6, 7] n (fun g v i wr => ∃ k : Nat, k + g = n ∧ i = .int .i64 (z - (n : Int) * b + b + (k : Int) * b) ∧ Own 2 1 i64L w1.heap.size wr v (L.take k) ∧ Below w1.heap.size w1 wr)
  case atStart => exact ⟨0, by omega, by congr 1; rw [IntKind.wrap_i64]; simp; omega, by simpa using Own.nil _ _ _ _ _, (Below.refl _ _).drew⟩
  case round =>
    obtain ⟨k, hk, rfl, hown, hb⟩ := hrel
    have Hk := Lib.hid hk
    have hlk : (L.take k).length = k := by rw [List.length_take]; omega
    obtain ⟨o, cap, hv, hcap, _, hov, hun⟩ := hown.sl fun _ => rfl
    rw [hlk] at hv hcap
    subst hv
    have Hown := Lib.hid hown
    have hz1r := hb.size
    have q0 : 0 ≤ (k : Int) * b := Int.mul_nonneg (by omega) (by omega)
    have q1 : (k : Int) * b ≤ (n : Int) * b := Int.mul_le_mul_of_nonneg_right (by omega) (by omega)
    have d1 : wr.cell? ⟨w.heap.size, 1, none⟩ = some (.int .i64 b) := by rw [hb.cell (by simp; omega)]; exact c1
    clear hk hown
    by_cases hlt : k < n
    · have q2 : ((k : Int) + 1) * b ≤ (n : Int) * b := Int.mul_le_mul_of_nonneg_right (by omega) (by omega)
      have q3 : ((k : Int) + 1) * b = (k : Int) * b + b := by rw [Int.add_mul]; omega
      have hcond : z - (n : Int) * b + b + (k : Int) * b ≤ t := by omega
      have hx : L[k]'(by omega) = z - (n : Int) * b + b + (k : Int) * b := by
        rw [Hsg.out k (by omega), Int.sub_mul, Int.sub_mul]; omega
      have htk : L.take (k + 1) = L.take k ++ [z - (n : Int) * b + b + (k : Int) * b] := by
        rw [List.take_succ_eq_append_getElem (by omega), hx]
      have Htk := Lib.hid htk
      have hnext : z - (n : Int) * b + b + ((k + 1 : Nat) : Int) * b = z - (n : Int) * b + b + (k : Int) * b + b := by rw [Int.natCast_add, Int.natCast_one, q3]; omega
      have Hnext := Lib.hid hnext
      clear htk hnext hx q3
      have hs0 : -2305843009213693952 ≤ z - (n : Int) * b + b + (k : Int) * b := by omega
      generalize z - (n : Int) * b + b + (k : Int) * b = s at *
      have hown2 := Hown.out.alloc (.cells #[.int .i64 s] 2)
      have Hown2 := Lib.hid hown2
      clear hown2
      go_wp2_with (at_builtin; (refine wpList_app st_i64 rfl _ _ rfl i64L (fun _ => rfl) cells1_i64 w1.heap.size _ (L.take k) rfl Hown2.out (some ⟨wr.heap.size, 0, none⟩) 1 1 [s] rfl rfl ?c1 ?c2 ?c3 ?c4 ?_))
      case c1 => have h9 := sl_new (sz := 1) (enc := i64L) s wr 2 (cs := #[.int .i64 s]) rfl; simpa using h9
      case c2 => simp; omega
      case c3 => decide
      case c4 => simp; omega
      intro v' w5 hown6 hgr _
      have hov' : ∀ g, (Value.slice o k cap).ownBlock = some g → w1.heap.size ≤ g := fun g hg => (Hown2.out.ge hg).1
      have hz5 := hgr.size
      have hb5 : Below w1.heap.size w1 w5 := (hb.alloc (by omega) _).grown hgr (by simp; omega) (fun g hg => hov' g hg)
      have d5 : w5.cell? ⟨w.heap.size, 1, none⟩ = some (.int .i64 b) := (World.cell?_of_block (a := ⟨w.heap.size, 1, none⟩) (hgr.block w.heap.size (by simp; omega) (fun e => by have := hov' _ e.symm; omega))).trans ((World.cell?_of_block (a := ⟨w.heap.size, 1, none⟩) (blk_old (by show w.heap.size < _; omega))).trans d1)
      go_wp2_with fail
      go_roundg (gk - 1)
      case measure => have := Hk.out; omega
      case rel => exact ⟨k + 1, by have := Hk.out; omega, by rw [Hnext.out], by rw [Htk.out]; exact hown6, hb5⟩
    · obtain rfl : k = n := by have := Hk.out; omega
      have hcond : t < z - (k : Int) * b + b + (k : Int) * b := by omega
      have ho := Hown.out
      rw [List.take_of_length_le (by omega)] at ho
      have Ho := Lib.hid ho
      clear ho hlk
      generalize z - (k : Int) * b + b + (k : Int) * b = s at *
      go_wp2_with fail
      go_ret2
      exact ⟨_, rfl, Own.mono (B := w1.heap.size) (B' := w.heap.size) Ho.out (by omega), ((Below.refl _ _).alloc (Nat.le_refl _) _).trans ((hb1.mono (by simp)).trans (hb.mono (by omega)))⟩
end Go.Proofs.Ytheimbhnckaonaa
