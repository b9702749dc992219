/- Contracts of package mark: Rise. -/
import Derived.Test.YtaicecnfodhlcaaMark
import Derived.RegionTactic
import Derived.BigRegion
import Derived.StillTailTactics
set_option linter.unusedVariables false
set_option linter.unusedSimpArgs false
namespace Go.Proofs.Ytaicecnfodhlcaa
open Go.RowKit

set_option maxHeartbeats 400000 in
theorem rise_src (bm bl : Nat) (ms : List Int) (s t : Int) (w : World) (h : IsMarks w bm bl ms) (hs : s < 0 ∨ ms.length ≤ s) :
    Calls Try.prog 23 #[.pointer (some ⟨bm, 0, none⟩), .int .i64 s, .int .i64 t] w fun e w' => e = .returned (.tuple #[.bool false, .int .i64 1]) ∧ w = w' := by
  have c0 := cell_of_one h.obj
  clear h
  go_enter Try.func23, Try.ntmps23
  rcases hs with hs | hs
  · go_wp2_with fail
    go_ret2
    exact ⟨rfl, rfl⟩
  · have h' : ¬ s < 0 := by omega
    go_wp2_with fail
    go_ret2
    exact ⟨rfl, rfl⟩

set_option maxHeartbeats 400000 in
theorem rise_time (bm bl : Nat) (ms : List Int) (s t : Int) (w : World) (h : IsMarks w bm bl ms) (hs : 0 ≤ s) (hs2 : s < ms.length) (ht : t < -1152921504606846976 ∨ 1152921504606846976 < t) :
    Calls Try.prog 23 #[.pointer (some ⟨bm, 0, none⟩), .int .i64 s, .int .i64 t] w fun e w' => e = .returned (.tuple #[.bool false, .int .i64 22]) ∧ w = w' := by
  have c0 := cell_of_one h.obj
  clear h
  go_enter Try.func23, Try.ntmps23
  rcases ht with hs | hs
  · go_wp2_with fail
    go_ret2
    exact ⟨rfl, rfl⟩
  · have h' : ¬ t < -1152921504606846976 := by omega
    go_wp2_with fail
    go_ret2
    exact ⟨rfl, rfl⟩

theorem IsMarks.set {w : World} {bm bl : Nat} {ms : List Int} (h : IsMarks w bm bl ms) (k : Nat) (x : Int) : IsMarks (w.setCell ⟨bl, k, none⟩ (.int .i64 x)) bm bl (ms.set k x) := by
  refine ⟨?_, ?_, by simpa using h.lo, by simpa using h.hi⟩
  · rw [Below.heap_setCell _ _ _ _ h.ne, List.length_set]
    exact h.obj
  · rw [List.length_set]
    refine (h.row.set k _).congr fun i hi => ?_
    by_cases e : i = k
    · subst e; simp [hi]
    · simp [e, Ne.symm e, List.getElem?_set]
theorem Chg.set (w : World) {a : Addr} {l : List Nat} (h : a.block ∈ l) (v : Value) : Chg l w (w.setCell a v) :=
  ⟨rfl, rfl, rfl, by simp [World.setCell], fun k _ hk => Below.heap_setCell _ _ _ _ (fun e => hk (e ▸ h))⟩
theorem IsMarks.drew {w : World} {bm bl : Nat} {ms : List Int} (h : IsMarks w bm bl ms) : IsMarks w.drew bm bl ms := ⟨h.obj, h.row.drew, h.lo, h.hi⟩
theorem Chg.drew {l : List Nat} {a b : World} (h : Chg l a b) : Chg l a b.drew := ⟨h.os, h.tape, h.output, h.size, h.block⟩

set_option maxHeartbeats 1000000 in
theorem rise_ok (bm bl : Nat) (ms : List Int) (s t : Int) (w : World) (h : IsMarks w bm bl ms) (hs : 0 ≤ s) (hs2 : s < ms.length) (ht : -1152921504606846976 ≤ t) (ht2 : t ≤ 1152921504606846976) :
    Calls Try.prog 23 #[.pointer (some ⟨bm, 0, none⟩), .int .i64 s, .int .i64 t] w fun e w' =>
      e = .returned (.tuple #[.bool (decide (leastOf ms < leastOf (ms.set s.toNat (max (ms.getD s.toNat 0) t)))), .int .i64 0]) ∧ IsMarks w' bm bl (ms.set s.toNat (max (ms.getD s.toNat 0) t)) ∧ Chg [bl] w w' := by
  obtain ⟨k, rfl⟩ := Int.eq_ofNat_of_zero_le hs
  rw [Int.toNat_natCast]
  have hk : k < ms.length := by omega
  have c0 := cell_of_one h.obj
  have e1 := h.row.cell hk
  have e2 := h.row.frozen k
  have H := Lib.hid h
  clear h hs
  generalize ms.getD k 0 = x at *
  have h2 := fun y => (H.out.set k y).drew
  have h3 : ∀ y, Chg [bl] w ((w.setCell ⟨bl, k, none⟩ (.int .i64 y)).drew) := fun y => (Chg.set (a := ⟨bl, k, none⟩) w (by simp) _).drew
  have H2 := Lib.hid h2
  have H3 := Lib.hid h3
  clear h2 h3
  by_cases hm : x ≤ t
  all_goals
    go_enter Try.func23, Try.ntmps23
    go_wp2_with (go_at_call 24; refine (marksLeast_any bm bl ms _ H.out).mono ?_; rintro e w' ⟨rfl, rfl⟩)
    go_region
    go_wp2_with (go_at_call 24; refine (marksLeast_any bm bl _ _ (H2.out _)).mono ?_; rintro e w' ⟨rfl, rfl⟩)
    all_goals go_ret2
    all_goals first
      | (have e : max x t = t := by omega
         rw [e]; exact ⟨rfl, H2.out _, H3.out _⟩)
      | (have e : max x t = x := by omega
         rw [e]; exact ⟨rfl, H2.out _, H3.out _⟩)
      | (exfalso; omega)
end Go.Proofs.Ytaicecnfodhlcaa
