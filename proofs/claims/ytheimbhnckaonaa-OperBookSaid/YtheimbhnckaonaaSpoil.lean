/- The contract of the laws' spoil: cells that were handed out are written over, and grown. -/
import Derived.Test.YtheimbhnckaonaaKept
set_option linter.unusedVariables false
set_option linter.unusedSimpArgs false
namespace Go.Proofs.Ytheimbhnckaonaa
open Go.RowKit

theorem sl_new2 {α : Type} {enc : α → List Value} (c d : α) (w : World) (t : TypeId) {cs : Array Value} (h : cs.toList = enc c ++ enc d) (h3 : (enc c).length = 3) : Sl 3 enc (w.alloc (.cells cs t)) (some ⟨w.heap.size, 0, none⟩) [c, d] := by
  have hb : (w.alloc (.cells cs t)).heap[w.heap.size]? = some (.cells cs t) := by
    show (w.heap.push _)[w.heap.size]? = _
    simp
  have key : ∀ k u, (enc c ++ enc d)[k]? = some u → (w.alloc (.cells cs t)).cell? ⟨w.heap.size, k, none⟩ = some u := by
    intro k u hu
    simp only [World.cell?, hb]
    rw [← h] at hu
    simpa using hu
  intro i hi
  refine ⟨w.heap.size, 0, rfl, by simp, fun j u hu => ?_⟩
  match i, hi with
  | 0, _ =>
    refine key _ u ?_
    simp only [List.getElem_cons_zero] at hu
    have hlt := (List.getElem?_eq_some_iff.1 hu).1
    rw [show 0 + 0 * 3 + j = j from by omega, List.getElem?_append_left hlt]
    exact hu
  | 1, _ =>
    refine key _ u ?_
    simp only [List.getElem_cons_succ, List.getElem_cons_zero] at hu
    rw [List.getElem?_append_right (by omega), show 0 + 1 * 3 + j - (enc c).length = j from by omega]
    exact hu

set_option maxHeartbeats 2000000 in
theorem spoil_row (B g cap : Nat) (xs : List Cell) (w : World) (hown : Own 51 3 cellL B w (.slice (some ⟨g, 0, none⟩) xs.length cap) xs) (hB : B ≤ w.heap.size) (hl : xs.length ≤ 100000000) :
    Calls Try.prog 31 #[.slice (some ⟨g, 0, none⟩) xs.length cap] w fun e w' => e = .returned (.tuple #[]) ∧ Below B w w' := by
  have hgB := (hown.ge (g := g) rfl)
  have Hown := Lib.hid hown
  clear hown
  go_enter Try.func31, Try.ntmps31
  go_wp2_with fail
  go_loopg [2] xs.length (fun q i wr => ∃ j : Nat, j + q = xs.length ∧ i = .int .i64 j ∧ Own 51 3 cellL B wr (.slice (some ⟨g, 0, none⟩) xs.length cap) ((xs.take j).map (fun _ => spoiltC) ++ xs.drop j) ∧ Below B w wr)
  case atStart => exact ⟨0, by omega, rfl, by simpa using Hown.out, Below.refl _ _⟩
  case round =>
    obtain ⟨j, hj, rfl, hown, hb⟩ := hrel
    have Hj := Lib.hid hj
    have Hb := Lib.hid hb
    have hzr := hb.size
    clear hj hb
    by_cases hlt : j < xs.length
    · have hlen : ((xs.take j).map (fun _ => spoiltC) ++ xs.drop j).length = xs.length := by simp; omega
      obtain ⟨⟨u0, e0⟩, ⟨u1, e1⟩, ⟨u2, e2⟩, f0, f1, f2⟩ := hown.room3 (k := j) (fun _ => rfl) (by omega)
      have hset := hown.set3 (k := j) (c := spoiltC) (fun _ => rfl) hlen.symm (by omega) rfl
      rw [step_set (fun _ => spoiltC) hlt] at hset
      have Hset := Lib.hid hset
      clear hset hlen hown
      go_wp2_with fail
      go_roundg (xs.length - (j + 1))
      case measure => have := Hj.out; omega
      case rel =>
        refine ⟨j + 1, by have := Hj.out; omega, by go_num, Hset.out, ?_⟩
        exact Hb.out.trans ((((Chg.set _ (l := [g]) (by show g ∈ [g]; simp) _).trans (Chg.set _ (l := [g]) (by show g ∈ [g]; simp) _)).trans (Chg.set _ (l := [g]) (by show g ∈ [g]; simp) _)).below (by omega) (by simp; omega))
    · obtain rfl : j = xs.length := by have := Hj.out; omega
      have hlen : ((xs.take xs.length).map (fun _ => spoiltC) ++ xs.drop xs.length).length = xs.length := by simp
      generalize (xs.take xs.length).map (fun _ => spoiltC) ++ xs.drop xs.length = Y at *
      have Hme := Lib.hid (show Own 51 3 cellL B (wr.alloc (.cells #[.int .i64 1, .string ⟨#[]⟩, .int .i64 0, .int .i64 2, .string ⟨#[]⟩, .int .i64 0] 51)) (.slice (some ⟨g, 0, none⟩) xs.length cap) Y from hown.alloc _)
      clear hown
      have h9 := sl_new2 (enc := cellL) (⟨1, ⟨#[]⟩, 0⟩ : Cell) ⟨2, ⟨#[]⟩, 0⟩ wr 51 (cs := #[.int .i64 1, .string ⟨#[]⟩, .int .i64 0, .int .i64 2, .string ⟨#[]⟩, .int .i64 0]) rfl rfl
      go_wp2_with (at_builtin; refine wpList_app st_cell rfl _ _ rfl cellL (fun _ => rfl) cells1_cell B _ Y rfl Hme.out (some ⟨wr.heap.size, 0, none⟩) 2 2 [⟨1, ⟨#[]⟩, 0⟩, ⟨2, ⟨#[]⟩, 0⟩] rfl ?q1sp ?q2sp ?q3sp ?q4sp ?q5sp ?_)
      case q1sp => rfl
      case q2sp => exact h9
      case q3sp => simp; omega
      case q4sp => decide
      case q5sp => simp; omega
      intro v' w5 hown6 hgr _
      have hb5 : Below B w w5 := ((Hb.out.alloc (by omega) _).grown hgr (by simp; omega) (fun g hg => (Hme.out.ge hg).1))
      obtain ⟨o, cap', rfl, _, _, _, _⟩ := hown6.sl (fun _ => rfl)
      obtain ⟨g', rfl, hg1, hg2⟩ := hown6.pos (by simp)
      have hroom := hown6.room3 (k := 0) (fun _ => rfl) (by simp)
      simp only [Nat.zero_mul, Nat.zero_add] at hroom
      obtain ⟨⟨u0, e0⟩, ⟨u1, e1⟩, ⟨u2, e2⟩, f0, f1, f2⟩ := hroom
      have hlen2 : (Y ++ [⟨1, ⟨#[]⟩, 0⟩, ⟨2, ⟨#[]⟩, 0⟩] : List Cell).length = xs.length + 2 := by simp [hlen]
      rw [hlen2]
      have hpos : (0 : Int) < ((xs.length + 2 : Nat) : Int) := by omega
      clear hown6 hlen2
      go_wp2_with fail
      go_end0
      exact ⟨rfl, ((hb5.setCell (by show B ≤ g'; omega) _).setCell (by show B ≤ g'; omega) _).setCell (by show B ≤ g'; omega) _⟩

set_option maxHeartbeats 1000000 in
theorem spoil_nil (w : World) : Calls Try.prog 31 #[.slice none 0 0] w fun e w' => e = .returned (.tuple #[]) ∧ Below w.heap.size w w' := by
  go_enter Try.func31, Try.ntmps31
  go_wp2_with fail
  go_loopg [2] 1 (fun q i wr => i = .int .i64 0 ∧ wr = w)
  case atStart => exact ⟨rfl, rfl⟩
  case round =>
    obtain ⟨rfl, rfl⟩ := hrel
    have Hme := Lib.hid (Own.nil 51 3 cellL wr.heap.size (wr.alloc (.cells #[.int .i64 1, .string ⟨#[]⟩, .int .i64 0, .int .i64 2, .string ⟨#[]⟩, .int .i64 0] 51)))
    have h9 := sl_new2 (enc := cellL) (⟨1, ⟨#[]⟩, 0⟩ : Cell) ⟨2, ⟨#[]⟩, 0⟩ wr 51 (cs := #[.int .i64 1, .string ⟨#[]⟩, .int .i64 0, .int .i64 2, .string ⟨#[]⟩, .int .i64 0]) rfl rfl
    go_wp2_with (at_builtin; refine wpList_app st_cell rfl _ _ rfl cellL (fun _ => rfl) cells1_cell wr.heap.size _ [] rfl Hme.out (some ⟨wr.heap.size, 0, none⟩) 2 2 [⟨1, ⟨#[]⟩, 0⟩, ⟨2, ⟨#[]⟩, 0⟩] rfl ?q1sn ?q2sn ?q3sn ?q4sn ?q5sn ?_)
    case q1sn => rfl
    case q2sn => exact h9
    case q3sn => simp
    case q4sn => decide
    case q5sn => simp
    intro v' w5 hown6 hgr _
    have hb5 : Below wr.heap.size wr w5 := (((Below.refl wr.heap.size wr).alloc (Nat.le_refl _) _).grown hgr (by simp) (fun g hg => (Hme.out.ge hg).1))
    obtain ⟨o, cap', rfl, _, _, _, _⟩ := hown6.sl (fun _ => rfl)
    obtain ⟨g', rfl, hg1, hg2⟩ := hown6.pos (by simp)
    have hroom := hown6.room3 (k := 0) (fun _ => rfl) (by simp)
    simp only [Nat.zero_mul, Nat.zero_add] at hroom
    obtain ⟨⟨u0, e0⟩, ⟨u1, e1⟩, ⟨u2, e2⟩, f0, f1, f2⟩ := hroom
    clear hown6
    go_wp2_with fail
    go_end0
    exact ⟨rfl, ((hb5.setCell (by show wr.heap.size ≤ g'; omega) _).setCell (by show wr.heap.size ≤ g'; omega) _).setCell (by show wr.heap.size ≤ g'; omega) _⟩

theorem spoil_any (B : Nat) (v : Value) (xs : List Cell) (w : World) (hown : Own 51 3 cellL B w v xs) (hB : B ≤ w.heap.size) (hl : xs.length ≤ 100000000) :
    Calls Try.prog 31 #[v] w fun e w' => e = .returned (.tuple #[]) ∧ Below B w w' := by
  obtain ⟨o, cap, rfl, _, _, _, _⟩ := hown.sl (fun _ => rfl)
  rcases hown.2 with ⟨h0, h1⟩ | ⟨g, cap', cur, h0, _⟩
  · rw [h0]
    exact (spoil_nil w).mono fun e w' ⟨h1, h2⟩ => ⟨h1, h2.mono hB⟩
  · cases h0
    exact spoil_row B g cap xs w hown hB hl
end Go.Proofs.Ytheimbhnckaonaa
