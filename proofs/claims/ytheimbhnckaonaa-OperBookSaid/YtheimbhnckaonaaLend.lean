/- Contracts of the laws' helpers: mark, LendCells. -/
import Derived.Test.YtheimbhnckaonaaCopy
import Derived.Laws.Rows
set_option linter.unusedVariables false
set_option linter.unusedSimpArgs false
namespace Go.Proofs.Ytheimbhnckaonaa
open Go.RowKit

def markC : Cell := ⟨-9, ⟨#[109, 97, 114, 107]⟩, 9⟩

theorem lawMark_any (w : World) : Calls Try.prog 82 #[] w fun e w' => e = .returned (.agg #[.int .i64 (-9), .string ⟨#[109, 97, 114, 107]⟩, .int .i64 9]) ∧ Below w.heap.size w w' := by
  go_enter Try.func82, Try.ntmps82
  go_wp2_with fail
  refine bodyPost_ret (results_cell_row rfl _ _ w.heap.size 51 #[.int .i64 (-9), .string ⟨#[109, 97, 114, 107]⟩, .int .i64 9] (0, 0) _ rfl ?_ Try.underlying51 rfl (by kernel_rfl)) rfl ?_
  · exact blk_at rfl
  · exact ⟨rfl, (Below.refl _ _).alloc (Nat.le_refl _) _⟩

theorem set_rep {α : Type} (xs : List α) (c d : α) {j : Nat} (hj : j < 3) : (xs ++ (List.replicate j c ++ List.replicate (3 - j) d)).set (xs.length + j) c = xs ++ (List.replicate (j + 1) c ++ List.replicate (3 - (j + 1)) d) := by
  rw [List.set_append_right _ _ (by omega), Nat.add_sub_cancel_left]
  congr 1
  match j, hj with
  | 0, _ => rfl
  | 1, _ => rfl
  | 2, _ => rfl

set_option maxHeartbeats 2000000 in
theorem lendCells_any (a : Option Addr) (cap : Nat) (xs : List Cell) (w : World) (hs : Sl 3 cellL w a xs) (hl : xs.length ≤ 100000000) :
    Calls Try.prog 52 #[.slice a xs.length cap] w fun e w' => ∃ g, e = .returned (.slice (some ⟨g, 0, none⟩) xs.length (xs.length + 3)) ∧ Own 51 3 cellL w.heap.size w' (.slice (some ⟨g, 0, none⟩) (xs.length + 3) (xs.length + 3)) (xs ++ List.replicate 3 markC) ∧ Below w.heap.size w w' := by
  obtain ⟨o, hmk, hown⟩ := make_own sz_cell (fun _ => rfl) (xs.length + 3) (by omega) (by decide) w
  have hmk' : (Instr.makeSlice 35 (.int .i64 ((xs.length : Int) + 3)) (.int .i64 ((xs.length : Int) + 3))).run Try.prog w = .ok (.slice (some ⟨w.heap.size, 0, none⟩) (xs.length + 3) (xs.length + 3)) (w.alloc o) := by simpa using hmk
  have hb1 : Below w.heap.size w (w.alloc o) := (Below.refl _ _).alloc (Nat.le_refl _) _
  obtain ⟨w2, hcp, hown2, hch, hz2⟩ := copy_own st_cell (enc := cellL) (fun _ => rfl) cells1_cell (m := xs.length) (c := cap) hown (by simp) (hs.below hb1) rfl (by simp) 35 3
  have hown2' : Own 51 3 cellL w.heap.size w2 (.slice (some ⟨w.heap.size, 0, none⟩) (xs.length + 3) (xs.length + 3)) (xs ++ List.replicate 3 default) := by
    have e : (List.replicate (xs.length + 3) (default : Cell)).drop xs.length = List.replicate 3 default := by rw [List.drop_replicate, Nat.add_sub_cancel_left]
    rw [e] at hown2
    exact hown2
  have hb2 : Below w.heap.size w w2 := Below.chain hb1 hch (by simp [hz2]) (by simp)
  have hz : w.heap.size + 1 ≤ w2.heap.size := by rw [hz2]; simp
  have Hown := Lib.hid hown2'
  clear hmk hown hown2 hown2' hb1 hch hz2
  go_enter Try.func52, Try.ntmps52
  go_wp2_with fail
  clear hmk' hcp
  go_loopg [4] 3 (fun g i wr => ∃ j : Nat, j + g = 3 ∧ i = .int .i64 ((xs.length : Int) + j) ∧ Own 51 3 cellL w.heap.size wr (.slice (some ⟨w.heap.size, 0, none⟩) (xs.length + 3) (xs.length + 3)) (xs ++ (List.replicate j markC ++ List.replicate (3 - j) default)) ∧ Below w.heap.size w wr ∧ w.heap.size + 1 ≤ wr.heap.size)
  case atStart => exact ⟨0, by omega, by simp, by simpa using Hown.out, hb2, hz⟩
  case round =>
    obtain ⟨j, hj, rfl, hown, hb, hzr⟩ := hrel
    have Hj := Lib.hid hj
    have Hown := Lib.hid hown
    clear hj hown
    by_cases hlt : j < 3
    · have hm := fun W => lawMark_any W
      go_wp2_with fail
      refine (hm _).mono ?_
      rintro e w3 ⟨rfl, hb3⟩
      have hown3 := Hown.out.below hb3
      have hlen : (xs ++ (List.replicate j markC ++ List.replicate (3 - j) (default : Cell))).length = xs.length + 3 := by simp; omega
      have hz3 := hb3.size
      have hb4 : Below w.heap.size w w3 := hb.trans (hb3.mono (by omega))
      obtain ⟨⟨u0, e0⟩, ⟨u1, e1⟩, ⟨u2, e2⟩, f0, f1, f2⟩ := hown3.room3 (k := xs.length + j) (fun _ => rfl) (by omega)
      have hset := hown3.set3 (k := xs.length + j) (c := markC) (fun _ => rfl) hlen.symm (by omega) rfl
      rw [set_rep xs markC default hlt] at hset
      have Hset := Lib.hid hset
      clear hset hown3 hlen hm
      go_wp2_with fail
      go_roundg (gk - 1)
      case measure => have := Hj.out; omega
      case rel =>
        refine ⟨j + 1, by have := Hj.out; omega, by go_num, Hset.out, ((hb4.setCell (by simp) _).setCell (by simp) _).setCell (by simp) _, ?_⟩
        simp [World.setCell]; omega
    · obtain rfl : j = 3 := by have := Hj.out; omega
      go_wp2_with fail
      go_ret
      refine ⟨w.heap.size, ?_, ?_, hb⟩
      · rfl
      · simpa using Hown.out
end Go.Proofs.Ytheimbhnckaonaa
