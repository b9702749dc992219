/- Contracts of package pane. -/
import Derived.Test.YtaicecnfodhlcaaProg
import Derived.Test.YtaicecnfodhlcaaBase
import Derived.Deep.RegionHeld3
set_option linter.unusedVariables false
set_option linter.unusedSimpArgs false
namespace Go.Proofs.Ytaicecnfodhlcaa
open Go.RowKit

/-- A right view. -/
def View.ok (v : View) : Bool := decide (1 ≤ v.size ∧ v.size ≤ 1099511627776 ∧ 1 ≤ v.slide ∧ v.slide ≤ 1099511627776 ∧ 0 ≤ v.late ∧ v.late ≤ 1099511627776 ∧ v.size ≤ 64 * v.slide)
def View.chk (v : View) : Int := if v.ok then 0 else 23
theorem View.ok_iff (v : View) : v.ok = true ↔ (1 ≤ v.size ∧ v.size ≤ 1099511627776 ∧ 1 ≤ v.slide ∧ v.slide ≤ 1099511627776 ∧ 0 ≤ v.late ∧ v.late ≤ 1099511627776 ∧ v.size ≤ 64 * v.slide) := by simp [View.ok]

set_option maxHeartbeats 1000000 in
theorem check_any (a b c : Int) (w : World) : Calls Try.prog 51 #[.agg #[.int .i64 a, .int .i64 b, .int .i64 c]] w fun e w' => e = .returned (.int .i64 (View.chk ⟨a, b, c⟩)) ∧ Below w.heap.size w w' := by
  go_enter Try.func51, Try.ntmps51
  go_wp2
  all_goals go_ret
  all_goals exact ⟨ret_int (by simp [View.chk, View.ok]; omega), (Below.refl _ _).alloc (Nat.le_refl _) _⟩

theorem tmod_neg {n d : Int} (hd : 1 ≤ d) (h : n.tmod d < 0) : n.tmod d + d = n % d := by
  rw [Int.tmod_eq_emod] at *
  have := Int.emod_nonneg n (b := d) (by omega)
  split at h
  · omega
  · rename_i hc
    rw [if_neg hc]
    omega
theorem tmod_pos {n d : Int} (hd : 1 ≤ d) (h : 0 ≤ n.tmod d) : n.tmod d = n % d := by
  rw [Int.tmod_eq_emod] at *
  have := Int.emod_lt_of_pos n (b := d) (by omega)
  split at h
  · rename_i hc
    rw [if_pos hc]
    omega
  · omega
theorem floor_eq (n d : Int) : n / d * d = n - n % d := by
  have := Int.mul_ediv_add_emod n d
  rw [Int.mul_comm] at this
  omega

theorem floor_any (n d : Int) (w : World) (hd : 1 ≤ d) (hd2 : d ≤ 1099511627776) (hn : -2305843009213693952 ≤ n) (hn2 : n ≤ 2305843009213693952) :
    Calls Try.prog 73 #[.int .i64 n, .int .i64 d] w fun e w' => e = .returned (.int .i64 (n / d * d)) ∧ w = w' := by
  have m0 := Int.emod_nonneg n (b := d) (by omega)
  have m1 := Int.emod_lt_of_pos n (b := d) (by omega)
  go_enter Try.func73, Try.ntmps73
  go_wp2
  all_goals go_ret
  · refine ⟨ret_int ?_, rfl⟩
    have h : n.tmod d < 0 := by assumption
    have e := tmod_neg hd h
    rw [floor_eq]
    unfold wrap64
    omega
  · refine ⟨ret_int ?_, rfl⟩
    have h : 0 ≤ n.tmod d := by assumption
    have e := tmod_pos hd h
    rw [floor_eq]
    unfold wrap64
    omega

theorem end_any (a b c s : Int) (w : World) : Calls Try.prog 72 #[.agg #[.int .i64 a, .int .i64 b, .int .i64 c], .int .i64 s] w fun e w' => e = .returned (.int .i64 (wrap64 (s + a))) ∧ Below w.heap.size w w' := by
  go_enter Try.func72, Try.ntmps72
  go_wp2
  go_ret
  exact ⟨ret_int (by simp), (Below.refl _ _).alloc (Nat.le_refl _) _⟩

/-- The window that begins at s is closed under a mark. -/
def View.shut (v : View) (s m : Int) : Bool := decide (s + v.size + v.late ≤ m)

set_option maxHeartbeats 1000000 in
theorem closed_any (a b c s m : Int) (w : World) (hv : View.ok ⟨a, b, c⟩ = true) (hs : -4611686018427387904 ≤ s) (hs2 : s ≤ 4611686018427387904) :
    Calls Try.prog 47 #[.agg #[.int .i64 a, .int .i64 b, .int .i64 c], .int .i64 s, .int .i64 m] w fun e w' => e = .returned (.bool (View.shut ⟨a, b, c⟩ s m)) ∧ Below w.heap.size w w' := by
  have hv' := (View.ok_iff _).1 hv
  simp only at hv'
  clear hv
  have hfin : ∀ w', Below (w.heap.size + 1) (w.alloc (.cells #[.int .i64 a, .int .i64 b, .int .i64 c] 76)) w' → (decide (IntKind.i64.wrap (wrap64 (s + a) + c) ≤ m) = View.shut ⟨a, b, c⟩ s m) ∧ Below w.heap.size w w' := by
    intro w' h
    refine ⟨?_, ((Below.refl _ _).alloc (Nat.le_refl _) _).trans (h.mono (by omega))⟩
    have e0 : wrap64 (s + a) = s + a := by unfold wrap64; omega
    have e : IntKind.i64.wrap (wrap64 (s + a) + c) = s + a + c := by rw [e0]; exact IntWalk.i64_in _ (by omega)
    rw [e]; rfl
  have kp : ∀ w', Below (w.heap.size + 1) (w.alloc (.cells #[.int .i64 a, .int .i64 b, .int .i64 c] 76)) w' → (Below (w.heap.size + 1) (w.alloc (.cells #[.int .i64 a, .int .i64 b, .int .i64 c] 76)) w' ∧ w'.cell? ⟨w.heap.size, 0, none⟩ = some (.int .i64 a) ∧ w'.cell? ⟨w.heap.size, 1, none⟩ = some (.int .i64 b) ∧ w'.cell? ⟨w.heap.size, 2, none⟩ = some (.int .i64 c)) := by
    intro w' h
    refine ⟨h, ?_, ?_, ?_⟩ <;> (rw [h.cell (by simp)]; go_simp)
  clear hv' hs hs2
  go_enter Try.func47, Try.ntmps47
  go_wp2
  go_region_held3 (fun w' => Below (w.heap.size + 1) (w.alloc (.cells #[.int .i64 a, .int .i64 b, .int .i64 c] 76)) w' ∧ w'.cell? ⟨w.heap.size, 0, none⟩ = some (.int .i64 a) ∧ w'.cell? ⟨w.heap.size, 1, none⟩ = some (.int .i64 b) ∧ w'.cell? ⟨w.heap.size, 2, none⟩ = some (.int .i64 c)) (first | exact kp _ (Below.refl _ _).drew | assumption)
    (first | (go_at_call 72; refine (end_any _ _ _ _ _).mono ?_; rintro e w' ⟨rfl, hb⟩; have hk := kp _ (Below.trans (And.left (by assumption)) (hb.mono (by simp)))))
  go_wp2
  go_ret
  have h := hfin _ hk.1
  exact ⟨ret_bool h.1, h.2⟩

end Go.Proofs.Ytaicecnfodhlcaa
