/- Contracts of the law's lend and kept. -/
import Derived.Test.YtheimbhnckaonaaKept
set_option linter.unusedVariables false
set_option linter.unusedSimpArgs false
namespace Go.Proofs.Ytheimbhnckaonaa
open Go.RowKit

def m7 : View := ⟨-7, 0, 0⟩
def v11 : View := ⟨1, 1, 0⟩

set_option maxHeartbeats 2000000 in
theorem lendV_any (a : Option Addr) (cap : Nat) (xs : List View) (w : World) (hs : Sl 3 viewL w a xs) (hl : xs.length ≤ 100000000) :
    Calls Try.prog 16 #[.slice a xs.length cap] w fun e w' => ∃ g, e = .returned (.slice (some ⟨g, 0, none⟩) xs.length (xs.length + 2)) ∧ Own 49 3 viewL w.heap.size w' (.slice (some ⟨g, 0, none⟩) (xs.length + 2) (xs.length + 2)) (xs ++ [m7, default]) ∧ Below w.heap.size w w' := by
  obtain ⟨o, hmk, hown⟩ := make_own sz_view (fun _ => rfl) (xs.length + 2) (by omega) (by decide) w
  have hmk' : (Instr.makeSlice 23 (.int .i64 ((xs.length : Int) + 2)) (.int .i64 ((xs.length : Int) + 2))).run Try.prog w = .ok (.slice (some ⟨w.heap.size, 0, none⟩) (xs.length + 2) (xs.length + 2)) (w.alloc o) := by simpa using hmk
  have hb1 : Below w.heap.size w (w.alloc o) := (Below.refl _ _).alloc (Nat.le_refl _) _
  obtain ⟨w2, hcp, hown2, hch, hz2⟩ := copy_own st_view (enc := viewL) (fun _ => rfl) cells1_view (m := xs.length) (c := cap) hown (by simp) (hs.below hb1) rfl (by simp) 23 3
  have e : (List.replicate (xs.length + 2) (default : View)).drop xs.length = [default, default] := by rw [List.drop_replicate, Nat.add_sub_cancel_left]; rfl
  rw [e] at hown2
  have hb2 : Below w.heap.size w w2 := Below.chain hb1 hch (by simp [hz2]) (by simp)
  have hz : w.heap.size + 1 ≤ w2.heap.size := by rw [hz2]; simp
  have hlen : (xs ++ [(default : View), default]).length = xs.length + 2 := by simp
  obtain ⟨⟨u0, e0⟩, ⟨u1, e1⟩, ⟨u2, e2⟩, f0, f1, f2⟩ := hown2.room3 (k := xs.length) (fun _ => rfl) (by omega)
  have hset := hown2.set3 (k := xs.length) (c := m7) (fun _ => rfl) hlen.symm (by omega) rfl
  have es : (xs ++ [(default : View), default]).set xs.length m7 = xs ++ [m7, default] := by
    rw [List.set_append_right _ _ (Nat.le_refl _), Nat.sub_self]; rfl
  rw [es] at hset
  have Hset := Lib.hid hset
  clear hmk hown hown2 hset hb1 hch hz2 e es hlen
  go_enter Try.func16, Try.ntmps16
  go_wp2_with fail
  go_ret
  exact ⟨w.heap.size, rfl, Hset.out, ((hb2.setCell (by simp) _).setCell (by simp) _).setCell (by simp) _⟩

set_option maxHeartbeats 4000000 in
theorem keptV_any (B g : Nat) (a : Option Addr) (cap : Nat) (xs : List View) (w : World) (hs : Sl 3 viewL w a xs) (hne : ∀ b off sp, a = some ⟨b, off, sp⟩ → b ≠ g) (hown : Own 49 3 viewL B w (.slice (some ⟨g, 0, none⟩) (xs.length + 2) (xs.length + 2)) (xs ++ [m7, default])) (hl : xs.length ≤ 100000000) :
    Calls Try.prog 19 #[.slice (some ⟨g, 0, none⟩) xs.length (xs.length + 2), .slice a xs.length cap] w fun e w' => e = .returned (.bool true) ∧ Chg [g] w w' := by
  have hY : (xs ++ [m7, default]).length = xs.length + 2 := by simp
  have hg0 := hown.at3 (k := xs.length) (fun _ => rfl) (by omega) rfl
  have hg1 := hown.at3 (k := xs.length + 1) (fun _ => rfl) (by omega) rfl
  rw [show (xs ++ [m7, default])[xs.length]'(by omega) = m7 from by simp] at hg0
  rw [show (xs ++ [m7, default])[xs.length + 1]'(by omega) = default from by simp] at hg1
  obtain ⟨a0, a1, a2⟩ := hg0
  obtain ⟨b0, b1, b2⟩ := hg1
  change w.cell? _ = some (.int .i64 (-7)) at a0
  change w.cell? _ = some (.int .i64 0) at a1 a2 b0 b1 b2
  have hq1 := fun W => run_eql_view (-7) 0 0 (-7) 0 0 W
  have hq2 := fun W => run_eql_view 0 0 0 0 0 0 W
  rw [decide_eq_true rfl] at hq1 hq2
  have hYx : ∀ j (hj : j < xs.length) (h : j < (xs ++ [m7, default]).length), (xs ++ [m7, default])[j] = xs[j] := fun j hj h => by rw [List.getElem_append_left hj]
  have hYx' := Lib.hid hYx
  have hgl := (hown.ge (g := g) rfl)
  have Hown0 := Lib.hid hown
  clear hown hYx
  generalize xs ++ [m7, default] = Y at *
  go_enter Try.func19, Try.ntmps19
  go_wp2_with fail
  clear a0 a1 a2 b0 b1 b2 hq1 hq2
  go_loopg [6, 7] (xs.length + 2) (fun q ok i wr => ∃ j : Nat, j + q = xs.length + 2 ∧ ok = .bool true ∧ i = .int .i64 j ∧ Own 49 3 viewL B wr (.slice (some ⟨g, 0, none⟩) (xs.length + 2) (xs.length + 2)) ((Y.take j).map (fun _ => v11) ++ Y.drop j) ∧ Chg [g] w wr)
  case atStart => exact ⟨0, by omega, rfl, rfl, by simpa using Hown0.out, Chg.refl _ _⟩
  case round =>
    obtain ⟨j, hj, rfl, rfl, hown, hch⟩ := hrel
    have Hj := Lib.hid hj
    have Hch := Lib.hid hch
    have hzr := hch.size
    clear hj hch
    by_cases hlt : j < xs.length + 2
    · have hlj : j < Y.length := by omega
      have hlen : ((Y.take j).map (fun _ => v11) ++ Y.drop j).length = xs.length + 2 := by simp; omega
      have hat := hown.at3 (k := j) (fun _ => rfl) (by omega) rfl
      rw [step_get (fun _ => v11) hlj] at hat
      have Hown := Lib.hid hown
      clear hown
      by_cases hjx : j < xs.length
      · have d0 : decide ((xs.length : Int) ≤ (j : Int)) = false := by simp; omega
        rw [hYx'.out j hjx hlj] at hat
        obtain ⟨a0, a1, a2⟩ := hat
        obtain ⟨ob, oo, rfl, hob, h0, h1, h2⟩ := hs.at3 hjx rfl
        have hne' : ob ≠ g := hne _ _ _ rfl
        have e0 := (World.cell?_of_block (a := ⟨ob, oo + j * 3, none⟩) (Hch.out.block ob hob (by simpa using hne'))).trans h0
        have e1 := (World.cell?_of_block (a := ⟨ob, oo + j * 3 + 1, none⟩) (Hch.out.block ob hob (by simpa using hne'))).trans h1
        have e2 := (World.cell?_of_block (a := ⟨ob, oo + j * 3 + 2, none⟩) (Hch.out.block ob hob (by simpa using hne'))).trans h2
        have hq := fun W => run_eql_view xs[j].size xs[j].slide xs[j].late xs[j].size xs[j].slide xs[j].late W
        rw [decide_eq_true rfl] at hq
        clear h0 h1 h2
        change wr.cell? _ = some (.int .i64 xs[j].size) at a0
        change wr.cell? _ = some (.int .i64 xs[j].slide) at a1
        change wr.cell? _ = some (.int .i64 xs[j].late) at a2
        generalize xs[j].size = x at *
        generalize xs[j].slide = y at *
        generalize xs[j].late = z at *
        go_wp2_with fail
        go_quiet (fail)
        clear hq a0 a1 a2 e0 e1 e2
        have hown3 := Hown.out.below (Below.drewN (Below.refl _ _) nq)
        obtain ⟨⟨u0, e0⟩, ⟨u1, e1⟩, ⟨u2, e2⟩, f0, f1, f2⟩ := hown3.room3 (k := j) (fun _ => rfl) (by omega)
        have hset := hown3.set3 (k := j) (c := v11) (fun _ => rfl) hlen.symm (by omega) rfl
        rw [step_set (fun _ => v11) hlj] at hset
        have Hset := Lib.hid hset
        clear hset hlen Hown
        go_wp2_with fail
        go_roundg (xs.length + 2 - (j + 1))
        case measure => have := Hj.out; omega
        case rel =>
          refine ⟨j + 1, by have := Hj.out; omega, rfl, by go_num, Hset.out, ?_⟩
          exact (Hch.out.thenB (Below.drewN (Below.refl _ _) nq)).trans (((Chg.set _ (l := [g]) (by show g ∈ [g]; simp) _).trans (Chg.set _ (l := [g]) (by show g ∈ [g]; simp) _)).trans (Chg.set _ (l := [g]) (by show g ∈ [g]; simp) _))
      · have d0 : decide ((xs.length : Int) ≤ (j : Int)) = true := by simp; omega
        clear hat
        go_wp2_with fail
        go_quiet (fail)
        have hown3 := Hown.out.below (Below.drewN (Below.refl _ _) nq)
        obtain ⟨⟨u0, e0⟩, ⟨u1, e1⟩, ⟨u2, e2⟩, f0, f1, f2⟩ := hown3.room3 (k := j) (fun _ => rfl) (by omega)
        have hset := hown3.set3 (k := j) (c := v11) (fun _ => rfl) hlen.symm (by omega) rfl
        rw [step_set (fun _ => v11) hlj] at hset
        have Hset := Lib.hid hset
        clear hset hlen Hown
        go_wp2_with fail
        go_roundg (xs.length + 2 - (j + 1))
        case measure => have := Hj.out; omega
        case rel =>
          refine ⟨j + 1, by have := Hj.out; omega, rfl, by go_num, Hset.out, ?_⟩
          exact (Hch.out.thenB (Below.drewN (Below.refl _ _) nq)).trans (((Chg.set _ (l := [g]) (by show g ∈ [g]; simp) _).trans (Chg.set _ (l := [g]) (by show g ∈ [g]; simp) _)).trans (Chg.set _ (l := [g]) (by show g ∈ [g]; simp) _))
    · obtain rfl : j = xs.length + 2 := by have := Hj.out; omega
      go_wp2_with fail
      go_ret
      exact ⟨rfl, Hch.out⟩
end Go.Proofs.Ytheimbhnckaonaa
