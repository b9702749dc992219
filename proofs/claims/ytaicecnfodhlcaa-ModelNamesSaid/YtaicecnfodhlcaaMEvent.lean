/- Event: the walk. -/
import Derived.Test.YtaicecnfodhlcaaMEventP
set_option linter.unusedVariables false
set_option linter.unusedSimpArgs false
namespace Go.Proofs.Ytaicecnfodhlcaa
open Go.RowKit Go.Deep

abbrev itemV (mk : Bool) (k : ByteArray) (t v : Int) : Value := .agg #[.bool mk, .string k, .int .i64 t, .int .i64 v]
/-- What is wrong with the item itself. -/
def itemErr (mk : Bool) (k : ByteArray) (t : Int) : Option Int := if mk = true then some 1 else if k.size < 1 ∨ 32 < k.size then some 21 else if t < -1152921504606846976 ∨ 1152921504606846976 < t then some 22 else none

set_option maxRecDepth 100000 in
set_option maxHeartbeats 8000000 in
theorem event_item (B : MB) (mk full : Bool) (k : ByteArray) (t v : Int) (w : World) (x : Int) (he : itemErr mk k t = some x) (hk : k.size ≤ maxLen) :
    Calls Try.prog 10 #[.pointer (some ⟨B.mp, 0, none⟩), itemV mk k t v, .bool full] w fun e w' => e = .returned (.tuple #[.int .i64 0, .int .i64 x]) ∧ Below w.heap.size w w' := by
  have hb : Below w.heap.size w (w.alloc (.cells #[.bool mk, .string k, .int .i64 t, .int .i64 v] 36)) := (Below.refl _ _).alloc (Nat.le_refl _) _
  have Hb := Lib.hid hb
  clear hb
  unfold itemErr at he
  cases mk with
  | true =>
    obtain rfl : x = 1 := by simpa using he.symm
    clear he
    go_enter Try.func10, Try.ntmps10
    go_wp2_with fail
    go_ret2
    exact ⟨rfl, Hb.out⟩
  | false =>
    rw [if_neg (by simp)] at he
    by_cases h1 : k.size < 1 ∨ 32 < k.size
    · rw [if_pos h1] at he
      obtain rfl : x = 21 := by simpa using he.symm
      clear he
      by_cases h2 : k.size < 1
      · have h3 : (k.size : Int) < 1 := by omega
        go_enter Try.func10, Try.ntmps10
        go_wp2_with fail
        go_ret2
        exact ⟨rfl, Hb.out⟩
      · have h3 : ¬ (k.size : Int) < 1 := by omega
        have h4 : (32 : Int) < (k.size : Int) := by omega
        go_enter Try.func10, Try.ntmps10
        go_wp2_with fail
        go_ret2
        exact ⟨rfl, Hb.out⟩
    · rw [if_neg h1] at he
      have h3 : ¬ (k.size : Int) < 1 := by omega
      have h4 : ¬ (32 : Int) < (k.size : Int) := by omega
      by_cases h5 : t < -1152921504606846976 ∨ 1152921504606846976 < t
      · rw [if_pos h5] at he
        obtain rfl : x = 22 := by simpa using he.symm
        clear he
        by_cases h6 : t < -1152921504606846976
        · go_enter Try.func10, Try.ntmps10
          go_wp2_with fail
          go_ret2
          exact ⟨rfl, Hb.out⟩
        · have h7 : 1152921504606846976 < t := by omega
          go_enter Try.func10, Try.ntmps10
          go_wp2_with fail
          go_ret2
          exact ⟨rfl, Hb.out⟩
      · rw [if_neg h5] at he; cases he

set_option maxRecDepth 100000 in
set_option maxHeartbeats 8000000 in
theorem event_due {w : World} {B : MB} {S : Mst} (h : IsModel w B S) (full : Bool) (k : ByteArray) (t v : Int) (hk1 : 1 ≤ k.size) (hk2 : k.size ≤ 32) (ht : -1152921504606846976 ≤ t) (ht2 : t ≤ 1152921504606846976) (hmax : S.L.length ≤ 100000000) (hd : (S.dueOf (oprK k S.cfg.op)).isSome = true) :
    Calls Try.prog 10 #[.pointer (some ⟨B.mp, 0, none⟩), itemV false k t v, .bool full] w fun e w' => e = .returned (.tuple #[.int .i64 0, .int .i64 53]) ∧ Below w.heap.size w w' := by
  have hb : Below w.heap.size w (w.alloc (.cells #[.bool false, .string k, .int .i64 t, .int .i64 v] 36)) := (Below.refl _ _).alloc (Nat.le_refl _) _
  have hbd := oprK_bd k h.inv.cfg.op.1 h.inv.cfg.op.2
  have hopr := mOperator_any (h.below hb) k (Nat.le_trans hk2 (by decide))
  have hdue : ∀ W, Below w.heap.size w W → Calls Try.prog 29 #[.pointer (some ⟨B.mp, 0, none⟩), .int .i64 (oprK k S.cfg.op)] W fun e w' => e = .returned (dueV (S.dueOf (oprK k S.cfg.op))) ∧ Below W.heap.size W w' := fun W hW => due_any (h.below hW) _ hbd.1 hbd.2 hmax
  obtain ⟨d, hd2⟩ := Option.isSome_iff_exists.1 hd
  rw [hd2] at hdue
  obtain ⟨dv, dk, ds⟩ := d
  have Hb := Lib.hid hb
  have Hdue := Lib.hid hdue
  have h3 : ¬ (k.size : Int) < 1 := by omega
  have h4 : ¬ (32 : Int) < (k.size : Int) := by omega
  have h5 : ¬ t < -1152921504606846976 := by omega
  have h6 : ¬ 1152921504606846976 < t := by omega
  clear h hb hdue hd hd2 hbd hmax
  generalize oprK k S.cfg.op = o at *
  go_enter Try.func10, Try.ntmps10
  go_wp2_with fail
  refine hopr.mono ?_
  rintro e w1 ⟨rfl, hb1⟩
  have hb1' := Hb.out.trans (hb1.mono Hb.out.size)
  have hdue := Hdue.out w1 hb1'
  have Hb1 := Lib.hid hb1'
  clear hb1 hb1' Hdue hopr
  go_wp2_with fail
  refine hdue.mono ?_
  rintro e w2 ⟨rfl, hb2⟩
  have Hb2 := Lib.hid (Hb1.out.trans (hb2.mono Hb1.out.size))
  clear hb2 hdue
  go_wp2_with fail
  go_ret2
  exact ⟨rfl, Hb2.out.alloc Hb2.out.size _⟩
end Go.Proofs.Ytaicecnfodhlcaa
