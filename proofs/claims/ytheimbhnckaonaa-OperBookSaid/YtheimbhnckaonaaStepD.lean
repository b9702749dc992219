/- The contract of the law's step: looks. -/
import Derived.Test.YtheimbhnckaonaaStepC
set_option linter.unusedVariables false
set_option linter.unusedSimpArgs false
namespace Go.Proofs.Ytheimbhnckaonaa
open Go.RowKit

set_option maxRecDepth 100000 in
set_option maxHeartbeats 4000000 in
theorem step_look {N : Nat} (b : OpB) (r : RefB) (O : Op14) (source : Int) (key : ByteArray) (t v : Int) (c : Value) (w : World) (h : Both N w b r O) (hmax : O.live.length ≤ 10000000) (hN : N ≤ w.heap.size) :
    Calls Try.prog 20 #[.pointer (some ⟨b.bp, 0, none⟩), .pointer (some ⟨r.rp, 0, none⟩), stepV 4 source key t v c] w fun e w' => e = .returned (.bool true) ∧ ∃ O', Both N w' b r O' ∧ Chg (four b r) w w' ∧ O'.live.length ≤ O.live.length + 300 := by
  obtain ⟨av, vcap, la, lcap, _, _, _, hls, _, _, _, _, _, c2⟩ := h.rf.sl
  have hltr := h.rf.lt.1
  have hlive : ∀ W, Both N W b r O → Calls Try.prog 22 #[.pointer (some ⟨b.bp, 0, none⟩)] W fun e w' => ∃ o cap, e = .returned (.slice o O.live.length cap) ∧ Sl 3 cellL w' o O.live ∧ Below W.heap.size W w' := by
    intro W hW
    refine (live_any b O W hW.op (by omega)).mono ?_
    rintro e w' ⟨v, rfl, ho, hb⟩
    obtain ⟨o, cap, rfl, _, hs, _, _⟩ := ho.sl fun _ => rfl
    exact ⟨o, cap, rfl, hs, hb⟩
  have hsame : ∀ W o cap, Sl 3 cellL W o O.live → Sl 3 cellL W la O.live → Calls Try.prog 21 #[.slice o O.live.length cap, .slice la O.live.length lcap] W fun e w' => e = .returned (.bool true) ∧ Below W.heap.size W w' := by
    intro W o cap h1 h2
    have h3 := same_any o cap O.live la lcap O.live W h1 h2 (by omega)
    rw [decide_eq_true rfl] at h3
    exact h3
  have hl1 : ∀ W, Both N W b r O → _ := fun W hW => operLeast_any b O W hW.op
  have hl2 : ∀ W, Both N W b r O → _ := fun W hW => refLeast_any r O W hW.rf
  have kp : ∀ W, Below w.heap.size w W → (Both N W b r O ∧ Below w.heap.size w W ∧ W.cell? ⟨r.rp, 2, none⟩ = some (.slice la O.live.length lcap) ∧ Sl 3 cellL W la O.live) := by
    intro W hW
    exact ⟨h.below hW, hW, (hW.cell hltr).trans c2, hls.below hW⟩
  have hbw : Below w.heap.size w (w.alloc (.cells #[.int .i64 4, .int .i64 source, .string key, .int .i64 t, .int .i64 v, c] 37)) := (Below.refl _ _).alloc (Nat.le_refl _) _
  have hk0 := kp _ hbw
  unfold stepV
  clear h hls c2
  generalize hLL : O.live = L at *
  have HLL := Lib.hid hLL
  clear hLL
  generalize leastOf O.ms = lm at *
  go_enter Try.func20, Try.ntmps20
  go_wp2_with fail
  have hbD := hbw.drew
  go_region_held3 (fun W => Both N W b r O ∧ Below w.heap.size w W ∧ W.cell? ⟨r.rp, 2, none⟩ = some (.slice la L.length lcap) ∧ Sl 3 cellL W la L) (first | exact kp _ hbw.drew | assumption)
    (first
      | (go_at_call 22; refine (hlive _ (And.left (by assumption))).mono ?_; rintro e w4 ⟨o4, cap4, rfl, hs4, hb4⟩; have hk4 := kp _ (Below.trans hbD (hb4.mono hbD.size)))
      | (go_at_call 21; refine (hsame _ _ _ (by assumption) (And.right (And.right (And.right (by assumption))))).mono ?_; rintro e w5 ⟨rfl, hb5⟩; have hk5 := kp _ (hk4.2.1.trans (hb5.mono hk4.2.1.size)))
      | (go_at_call 23; refine (hl1 _ (And.left (by assumption))).mono ?_; rintro e w' ⟨rfl, rfl⟩)
      | (go_at_call 24; refine (hl2 _ (And.left (by assumption))).mono ?_; rintro e w' ⟨rfl, rfl⟩))
  have heq : (lm == lm) = true := by simp
  go_wp2_with fail
  go_ret
  exact ⟨rfl, O, hk5.1, (Chg.of_below hk5.2.1).mono (by simp), by rw [HLL.out]; exact Nat.le_add_right _ _⟩

/-- A step of whatever kind: both tell the same, and go on alike. -/
theorem step_chg {N : Nat} (b : OpB) (r : RefB) (O : Op14) (kind source : Int) (key : ByteArray) (t v : Int) (A : Option Addr) (cap : Nat) (cs : List Cell) (w : World) (h : Both N w b r O) (hs : Sl 3 cellL w A cs) (hA : cs ≠ [] → Under N A) (hc : cs.length ≤ cap) (hmax : O.live.length ≤ 10000000) (hN : N ≤ w.heap.size) :
    Calls Try.prog 20 #[.pointer (some ⟨b.bp, 0, none⟩), .pointer (some ⟨r.rp, 0, none⟩), stepV kind source key t v (.slice A cs.length cap)] w fun e w' => e = .returned (.bool true) ∧ ∃ O', Both N w' b r O' ∧ Chg (four b r) w w' ∧ O'.live.length ≤ O.live.length + 300 := by
  by_cases h1 : kind = 1
  · subst h1; exact step_take b r O source key t v _ w h hmax hN
  · by_cases h2 : kind = 2
    · subst h2; exact step_mark b r O source key t v _ w h hmax hN
    · by_cases h3 : kind = 3
      · subst h3; exact step_wrote b r O source key t v A cap cs w h hs hA hc hmax hN
      · by_cases h4 : kind = 4
        · subst h4; exact step_look b r O source key t v _ w h hmax hN
        · exact step_other b r O kind source key t v _ w h hN h1 h2 h3 h4
/-- A step of whatever kind: both tell the same, and go on alike. -/
theorem step_any {N : Nat} (b : OpB) (r : RefB) (O : Op14) (kind source : Int) (key : ByteArray) (t v : Int) (A : Option Addr) (cap : Nat) (cs : List Cell) (w : World) (h : Both N w b r O) (hs : Sl 3 cellL w A cs) (hA : cs ≠ [] → Under N A) (hc : cs.length ≤ cap) (hmax : O.live.length ≤ 10000000) (hN : N ≤ w.heap.size) :
    Calls Try.prog 20 #[.pointer (some ⟨b.bp, 0, none⟩), .pointer (some ⟨r.rp, 0, none⟩), stepV kind source key t v (.slice A cs.length cap)] w fun e w' => e = .returned (.bool true) ∧ ∃ O', Both N w' b r O' ∧ Below N w w' ∧ O'.live.length ≤ O.live.length + 300 :=
  (step_chg b r O kind source key t v A cap cs w h hs hA hc hmax hN).mono fun e w' ⟨he, O', h1, h2, h3⟩ => ⟨he, O', h1, h2.below hN h.four_ge, h3⟩
end Go.Proofs.Ytheimbhnckaonaa
