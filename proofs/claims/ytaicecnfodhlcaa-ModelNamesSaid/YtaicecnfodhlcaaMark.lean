/- Contracts of package mark: New, Least, Rise. -/
import Derived.Test.YtaicecnfodhlcaaStarts
set_option linter.unusedVariables false
set_option linter.unusedSimpArgs false
namespace Go.Proofs.Ytaicecnfodhlcaa
open Go.RowKit

/-- The least number of a list. -/
def leastOf : List Int → Int
  | [] => 0
  | x :: r => r.foldl min x
theorem leastOf_snoc {xs : List Int} (h : xs ≠ []) (x : Int) : leastOf (xs ++ [x]) = min (leastOf xs) x := by
  cases xs with
  | nil => exact absurd rfl h
  | cons y r => simp [leastOf, List.foldl_append]
theorem leastOf_take {xs : List Int} {k : Nat} (h1 : 1 ≤ k) (hk : k < xs.length) : leastOf (xs.take (k + 1)) = min (leastOf (xs.take k)) xs[k] := by
  rw [List.take_succ_eq_append_getElem hk, leastOf_snoc]
  intro e
  rw [List.take_eq_nil_iff] at e
  rcases e with e | e
  · omega
  · subst e; simp at hk

set_option maxHeartbeats 400000 in
theorem min_any (a : Option Addr) (cap : Nat) (xs : List Int) (w : World) (hs : Sl 1 i64L w a xs) (h0 : 1 ≤ xs.length) (h1 : xs.length ≤ 1000) :
    Calls Try.prog 55 #[.slice a xs.length cap] w fun e w' => e = .returned (.int .i64 (leastOf xs)) ∧ w = w' := by
  obtain ⟨b, off, rfl, hb, hc0⟩ := hs.at_i64 (i := 0) (by omega)
  have hx0 : leastOf (xs.take 1) = xs[0] := by
    obtain ⟨x, r, rfl⟩ := List.exists_cons_of_length_pos h0
    rfl
  simp only [Nat.add_zero] at hc0
  go_enter Try.func55, Try.ntmps55
  go_wp2_with fail
  go_loopg [3, 4] (xs.length - 1) (fun g m i wr => ∃ k : Nat, k + g = xs.length ∧ 1 ≤ k ∧ i = .int .i64 k ∧ m = .int .i64 (leastOf (xs.take k)) ∧ w = wr)
  case atStart => exact ⟨1, by omega, by omega, rfl, by rw [hx0], rfl⟩
  case round => 
    obtain ⟨k, hk, h1k, rfl, rfl, rfl⟩ := hrel
    have Hk := Lib.hid hk
    clear hk
    by_cases hlt : k < xs.length
    · obtain ⟨b', off', e, _, hck⟩ := hs.at_i64 (i := k) hlt
      cases e
      have hl := leastOf_take h1k hlt
      have Hl := Lib.hid hl
      clear hl
      go_wp2_with fail
      all_goals
        go_roundg (gk - 1)
        case measure => have := Hk.out; omega
        case rel =>
          refine ⟨k + 1, by have := Hk.out; omega, by omega, by go_num, ?_, rfl⟩
          rw [Hl.out]
          first | (rw [Int.min_eq_right (by omega)]; done) | (rw [Int.min_eq_left (by omega)]; done)
    · obtain rfl : k = xs.length := by have := Hk.out; omega
      go_wp2_with fail
      go_ret
      exact ⟨ret_int (by rw [List.take_length]), rfl⟩

def noMark : Int := -4611686018427387904

/-- A mark.Marks: its struct in block bm, its marks in block bl. -/
structure IsMarks (w : World) (bm bl : Nat) (ms : List Int) : Prop where
  obj : w.heap[bm]? = some (.cells #[.slice (some ⟨bl, 0, none⟩) ms.length ms.length] 115 (0, 0))
  row : w.rowIs bl 2 ms.length (fun i => .int .i64 (ms.getD i 0))
  lo : 1 ≤ ms.length
  hi : ms.length ≤ 8

theorem IsMarks.keep {w w' : World} {bm bl : Nat} {ms : List Int} (h : IsMarks w bm bl ms) (h1 : w'.heap[bm]? = w.heap[bm]?) (h2 : w'.heap[bl]? = w.heap[bl]?) : IsMarks w' bm bl ms :=
  ⟨h1.trans h.obj, h.row.of_block h2, h.lo, h.hi⟩
theorem IsMarks.lt {w : World} {bm bl : Nat} {ms : List Int} (h : IsMarks w bm bl ms) : bm < w.heap.size ∧ bl < w.heap.size := ⟨lt_of_block h.obj, h.row.lt⟩
theorem IsMarks.ne {w : World} {bm bl : Nat} {ms : List Int} (h : IsMarks w bm bl ms) : bm ≠ bl := by
  rintro rfl
  obtain ⟨c, hc, hn, hf⟩ := h.row
  have := h.obj.symm.trans hc
  simp at this
theorem IsMarks.sl {w : World} {bm bl : Nat} {ms : List Int} (h : IsMarks w bm bl ms) : Sl 1 i64L w (some ⟨bl, 0, none⟩) ms := by
  intro i hi
  refine ⟨bl, 0, rfl, h.row.lt, fun j u hu => ?_⟩
  match j, hu with
  | 0, hu =>
    simp at hu
    have := h.row.cell (i := i) hi
    simp [hi] at this
    simpa [hu] using this

set_option maxHeartbeats 400000 in
theorem marksNew_bad (n : Int) (w : World) (h : n < 1 ∨ 8 < n) : Calls Try.prog 18 #[.int .i64 n] w fun e w' => e = .returned (.tuple #[.pointer none, .int .i64 1]) ∧ w = w' := by
  go_enter Try.func18, Try.ntmps18
  rcases h with h | h
  · go_wp2
    go_ret2
    exact ⟨rfl, rfl⟩
  · have h' : ¬ n < 1 := by omega
    go_wp2
    go_ret2
    exact ⟨rfl, rfl⟩

set_option maxHeartbeats 400000 in
theorem marksNew_any (n : Int) (w : World) (h0 : 1 ≤ n) (h1 : n ≤ 8) : Calls Try.prog 18 #[.int .i64 n] w fun e w' => e = .returned (.tuple #[.pointer (some ⟨w.heap.size + 1, 0, none⟩), .int .i64 0]) ∧ IsMarks w' (w.heap.size + 1) w.heap.size (List.replicate n.toNat noMark) ∧ Below w.heap.size w w' := by
  obtain ⟨k, rfl⟩ := Int.eq_ofNat_of_zero_le (by omega : 0 ≤ n)
  rw [Int.toNat_natCast]
  have hmk := run_make_row' (P := Try.prog) 113 2 (.int .i64 0) 8 Try.underlying113 info_i64 rfl .i64 .i64 k (by omega) (by omega)
  go_enter Try.func18, Try.ntmps18
  go_wp2
  go_loopg [5, 21] k (fun g _ i wr => ∃ j : Nat, j + g = k ∧ i = .int .i64 j ∧ wr.rowIs w.heap.size 2 k (fun q => .int .i64 (if q < j then noMark else 0)) ∧ wr.heap[w.heap.size + 1]? = some (.cells #[.slice (some ⟨w.heap.size, 0, none⟩) k k] 115 (0, 0)) ∧ Below w.heap.size w wr)
  case atStart =>
    refine ⟨0, by omega, rfl, ?_, ?_, ((Below.refl _ _).alloc (Nat.le_refl _) _).alloc (by simp) _⟩
    · exact ((World.rowIs_made _ _ _ _).congr (fun q _ => by simp)).alloc _
    · exact blk_at (by simp)
  case round =>
    obtain ⟨j, hj, rfl, hrow, hobj, hb⟩ := hrel
    have Hj := Lib.hid hj
    have Hrow := Lib.hid hrow
    have Hobj := Lib.hid hobj
    have hz := hrow.lt
    have c0 := cell_of_one hobj
    clear hj hrow hobj hmk
    by_cases hlt : j < k
    · have e1 := Hrow.out.cell hlt
      have e2 := Hrow.out.frozen j
      rw [if_neg (Nat.lt_irrefl j)] at e1
      go_wp2
      go_roundg (gk - 1)
      case measure => have := Hj.out; omega
      case rel =>
        refine ⟨j + 1, by have := Hj.out; omega, by go_num, ?_, ?_, hb.setCell (by simp) _⟩
        · refine (Hrow.out.set j _).congr fun q hq => ?_
          by_cases h1 : q = j
          · subst h1; simp [noMark]
          · by_cases h2 : q < j
            · rw [if_neg h1, if_pos h2, if_pos (by omega)]
            · rw [if_neg h1, if_neg h2, if_neg (by omega)]
        · rw [Below.heap_setCell _ _ _ _ (by simp)]; exact Hobj.out
    · obtain rfl : j = k := by have := Hj.out; omega
      go_wp2
      go_ret2
      refine ⟨rfl, ⟨by rw [List.length_replicate]; exact Hobj.out, ?_, by simp; omega, by simp; omega⟩, hb⟩
      rw [List.length_replicate]
      exact Hrow.out.congr fun q hq => by simp [hq]

theorem marksLeast_any (bm bl : Nat) (ms : List Int) (w : World) (h : IsMarks w bm bl ms) : Calls Try.prog 24 #[.pointer (some ⟨bm, 0, none⟩)] w fun e w' => e = .returned (.int .i64 (leastOf ms)) ∧ w = w' := by
  have c0 := cell_of_one h.obj
  have hm := fun W => min_any (some ⟨bl, 0, none⟩) ms.length ms W
  have h1 := h.lo
  have h2 := h.hi
  have Hs := Lib.hid h.sl
  clear h
  go_enter Try.func24, Try.ntmps24
  go_wp2_with (go_at_call 55; refine (hm _ Hs.out h1 (by omega)).mono ?_; rintro e w' ⟨rfl, rfl⟩)
  go_ret
  exact ⟨rfl, rfl⟩
end Go.Proofs.Ytaicecnfodhlcaa
