/- copy of rows of structs. -/
import Derived.Test.YtheimbhnckaonaaSame
import Derived.Laws.CopyRow
set_option linter.unusedVariables false
set_option linter.unusedSimpArgs false
namespace Go.Proofs.Ytheimbhnckaonaa
open Go.RowKit

theorem take_mul {α : Type} {sz : Nat} {enc : α → List Value} (hz : ∀ x, (enc x).length = sz) : ∀ (xs : List α) (k : Nat), (xs.flatMap enc).take (k * sz) = (xs.take k).flatMap enc
  | [], k => by simp
  | x :: r, 0 => by simp
  | x :: r, k + 1 => by
    rw [List.flatMap_cons, List.take_succ_cons, List.flatMap_cons, ← take_mul hz r k, show (k + 1) * sz = (enc x).length + k * sz from by rw [hz, Nat.add_mul]; omega, List.take_length_add_append]
theorem drop_mul {α : Type} {sz : Nat} {enc : α → List Value} (hz : ∀ x, (enc x).length = sz) : ∀ (xs : List α) (k : Nat), (xs.flatMap enc).drop (k * sz) = (xs.drop k).flatMap enc
  | [], k => by simp
  | x :: r, 0 => by simp
  | x :: r, k + 1 => by
    rw [List.flatMap_cons, List.drop_succ_cons, ← drop_mul hz r k, show (k + 1) * sz = (enc x).length + k * sz from by rw [hz, Nat.add_mul]; omega, List.drop_length_add_append]

theorem copy_own {α : Type} {P : Program} {t e sz bytes : Nat} (K : SlT P t e sz bytes) {enc : α → List Value} (hz : ∀ x, (enc x).length = sz) (h1 : Cells1 enc) {B g n cap m c : Nat} {w : World} {A : Option Addr} {xs ys : List α}
    (hown : Own e sz enc B w (.slice (some ⟨g, 0, none⟩) n cap) xs) (hn : n = xs.length) (hsl : Sl sz enc w A ys) (hm : m = ys.length) (hle : ys.length ≤ xs.length) (sT ty : TypeId) :
    ∃ w', (Builtin.copy_ #[t, sT] ty #[.slice (some ⟨g, 0, none⟩) n cap, .slice A m c]).run P w = .ok (goInt ys.length) w' ∧ Own e sz enc B w' (.slice (some ⟨g, 0, none⟩) n cap) (ys ++ xs.drop ys.length) ∧ Chg [g] w w' ∧ w'.heap.size = w.heap.size := by
  subst hn
  subst hm
  obtain ⟨ht, hsz, i, z, hi, hz0, hsize, hbytes, hzs⟩ := K
  have hmin : Nat.min ys.length xs.length = ys.length := Nat.min_eq_left hle
  by_cases hy : ys = []
  · subst hy
    refine ⟨w, ?_, by simpa using hown, Chg.refl _ _, rfl⟩
    have hl : ∀ (x : Addr), (loadCells x 0).run P w = .ok #[] w := fun x => by simpa using run_loadCells_list (P := P) w x [] (by simp)
    cases A <;> simp [Builtin.copy_, run_underlying ht, Builtin.lenOf, Builtin.firstCells, sizeOf, typeInfo, hi, storeCells, hl]
  · have h0 : 0 < ys.length := List.length_pos_iff.2 hy
    obtain ⟨b, off, e1, _, _⟩ := hsl 0 h0
    subst e1
    have hl := run_loadCells_list (P := P) w ⟨b, off, none⟩ (ys.flatMap enc) (hsl.flat hz)
    rw [flat_length hz] at hl
    obtain ⟨hlen, h | ⟨g', cap', cur, e2, hB, hb, hcap, hmax, hcs, htake⟩⟩ := hown
    · cases h.1
    · cases e2
      have hfit : 0 + 0 + (ys.flatMap enc).length ≤ cur.size := by
        rw [flat_length hz]
        have h7 := congrArg List.length htake
        rw [List.length_take, flat_length hz] at h7
        have h8 : ys.length * sz ≤ xs.length * sz := Nat.mul_le_mul_right _ hle
        simp at h7 ⊢
        omega
      have hst := run_storeCells_at P g 0 e (ys.flatMap enc) 0 cur w hb hfit (fun u hu => by obtain ⟨y, _, hy⟩ := List.mem_flatMap.1 hu; exact h1 y u hy)
      simp only [Nat.add_zero, List.take_zero, List.nil_append, Nat.zero_add] at hst hfit
      refine ⟨w.setRow g (ys.flatMap enc ++ cur.toList.drop (ys.flatMap enc).length).toArray, ?_, ?_, ?_, ?_⟩
      · simp [Builtin.copy_, run_underlying ht, Builtin.lenOf, Builtin.firstCells, sizeOf, typeInfo, hi, hsize, hmin, hl, hst]
      · have hll : (ys ++ xs.drop ys.length).length = xs.length := by simp; omega
        unfold Own
        rw [hll]
        refine ⟨by rw [flat_length hz, hll], .inr ⟨g, cap, _, rfl, hB, setRow_heap w g cur _ e (0, 0) hb, hcap, hmax, ?_, ?_⟩⟩
        · simp only [List.size_toArray, List.length_append, List.length_drop, Array.length_toList]
          rw [← hcs]; omega
        · have e1 : cur.toList.take (xs.length * sz) = xs.flatMap enc := htake
          show List.take (xs.length * sz) (ys.flatMap enc ++ cur.toList.drop (ys.flatMap enc).length) = (ys ++ xs.drop ys.length).flatMap enc
          rw [List.take_append, List.take_of_length_le (by rw [flat_length hz]; exact Nat.mul_le_mul_right _ hle), List.flatMap_append, ← drop_mul hz, ← e1, List.drop_take, flat_length hz]
      · exact ⟨rfl, rfl, rfl, by simp [World.setRow], fun k _ hk => by simp only [World.setRow, Array.getElem?_modify]; rw [if_neg (fun e => hk (by simp [e]))]⟩
      · simp [World.setRow]
end Go.Proofs.Ytheimbhnckaonaa
