/- Each operation of both operators in one contract. -/
import Derived.Test.YtheimbhnckaonaaPair
set_option linter.unusedVariables false
set_option linter.unusedSimpArgs false
namespace Go.Proofs.Ytheimbhnckaonaa
open Go.RowKit

/-- What Take tells: cells, lateness, error. -/
def timeOk (t : Int) : Bool := decide (-1152921504606846976 ≤ t ∧ t ≤ 1152921504606846976)
def takeX (O : Op14) (k : ByteArray) (t : Int) : List Cell := if keyOk k = true ∧ timeOk t = true then (openCells O.vs t (leastOf O.ms)).map (setK k) else []
def takeL (O : Op14) (k : ByteArray) (t : Int) : Bool := if keyOk k = true ∧ timeOk t = true then isLate O.vs t (leastOf O.ms) else false
def takeE (O : Op14) (k : ByteArray) (t : Int) : Int := if keyOk k = false then 21 else if timeOk t = false then 22 else 0
theorem takeX_len {O : Op14} (h1 : O.vs.length ≤ 4) (hv : ∀ v ∈ O.vs, v.ok = true) (k : ByteArray) (t : Int) : (takeX O k t).length ≤ 256 := by
  unfold takeX
  split
  · have := openN_le hv t (leastOf O.ms) O.vs.length (Nat.le_refl _)
    rw [List.length_map]
    unfold openCells; omega
  · simp

theorem take_all (b : OpB) (O : Op14) (k : ByteArray) (t : Int) (w : World) (h : IsOper w b O) :
    Calls Try.prog 29 #[.pointer (some ⟨b.bp, 0, none⟩), .string k, .int .i64 t] w fun e w' => ∃ v, e = .returned (.tuple #[v, .bool (takeL O k t), .int .i64 (takeE O k t)]) ∧ Own 51 3 cellL w.heap.size w' v (takeX O k t) ∧ Below w.heap.size w w' := by
  rcases Bool.eq_false_or_eq_true (keyOk k) with hk | hk
  · rcases Bool.eq_false_or_eq_true (timeOk t) with ht | ht
    · have ht' : -1152921504606846976 ≤ t ∧ t ≤ 1152921504606846976 := by simpa [timeOk] using ht
      simp only [takeL, takeE, takeX, hk, ht, true_and, and_true, and_self, false_and, and_false, if_true, if_false, reduceCtorEq, Bool.false_eq_true, Bool.true_eq_false]
      exact take_any b O k t w h hk ht'.1 ht'.2
    · have ht' : t < -1152921504606846976 ∨ 1152921504606846976 < t := by simp [timeOk] at ht; omega
      simp only [takeL, takeE, takeX, hk, ht, true_and, and_true, and_self, false_and, and_false, if_true, if_false, reduceCtorEq, Bool.false_eq_true, Bool.true_eq_false]
      exact (takeTime_any b O k t w h hk ht').mono fun e w' ⟨h1, h2⟩ => ⟨_, h1, Own.nil _ _ _ _ _, h2⟩
  · simp only [takeL, takeE, takeX, hk, true_and, and_true, and_self, false_and, and_false, if_true, if_false, reduceCtorEq, Bool.false_eq_true, Bool.true_eq_false]
    exact (takeKey_any b O k t w hk).mono fun e w' ⟨h1, h2⟩ => ⟨_, h1, Own.nil _ _ _ _ _, by subst h2; exact Below.refl _ _⟩
theorem refTake_all (b : RefB) (O : Op14) (k : ByteArray) (t : Int) (w : World) (h : IsRef w b O) :
    Calls Try.prog 37 #[.pointer (some ⟨b.rp, 0, none⟩), .string k, .int .i64 t] w fun e w' => ∃ v, e = .returned (.tuple #[v, .bool (takeL O k t), .int .i64 (takeE O k t)]) ∧ Own 51 3 cellL w.heap.size w' v (takeX O k t) ∧ Below w.heap.size w w' := by
  rcases Bool.eq_false_or_eq_true (keyOk k) with hk | hk
  · rcases Bool.eq_false_or_eq_true (timeOk t) with ht | ht
    · have ht' : -1152921504606846976 ≤ t ∧ t ≤ 1152921504606846976 := by simpa [timeOk] using ht
      simp only [takeL, takeE, takeX, hk, ht, true_and, and_true, and_self, false_and, and_false, if_true, if_false, reduceCtorEq, Bool.false_eq_true, Bool.true_eq_false]
      exact refTake_any b O k t w h hk ht'.1 ht'.2
    · have ht' : t < -1152921504606846976 ∨ 1152921504606846976 < t := by simp [timeOk] at ht; omega
      simp only [takeL, takeE, takeX, hk, ht, true_and, and_true, and_self, false_and, and_false, if_true, if_false, reduceCtorEq, Bool.false_eq_true, Bool.true_eq_false]
      exact (refTake_time b O k t w hk ht').mono fun e w' ⟨h1, h2⟩ => ⟨_, h1, Own.nil _ _ _ _ _, by subst h2; exact Below.refl _ _⟩
  · simp only [takeL, takeE, takeX, hk, true_and, and_true, and_self, false_and, and_false, if_true, if_false, reduceCtorEq, Bool.false_eq_true, Bool.true_eq_false]
    exact (refTake_key b O k t w hk).mono fun e w' ⟨h1, h2⟩ => ⟨_, h1, Own.nil _ _ _ _ _, by subst h2; exact Below.refl _ _⟩

/-- What Mark tells and leaves. -/
def srcOk (O : Op14) (s : Int) : Bool := decide (0 ≤ s ∧ s < O.ms.length)
def markE (O : Op14) (s t : Int) : Int := if srcOk O s = false then 1 else if timeOk t = false then 22 else 0
def markX (O : Op14) (s t : Int) : List Cell := if srcOk O s = true ∧ timeOk t = true then (O.marked s t).live.filter (shutC (O.marked s t)) else []
def markO (O : Op14) (s t : Int) : Op14 := if srcOk O s = true ∧ timeOk t = true then { O.marked s t with live := (O.marked s t).live.filter fun c => !shutC (O.marked s t) c } else O

theorem mark_all (b : OpB) (O : Op14) (s t : Int) (w : World) (h : IsOper w b O) (hmax : O.live.length ≤ 100000000) :
    Calls Try.prog 30 #[.pointer (some ⟨b.bp, 0, none⟩), .int .i64 s, .int .i64 t] w fun e w' => ∃ v, e = .returned (.tuple #[v, .int .i64 (markE O s t)]) ∧ Own 51 3 cellL w.heap.size w' v (markX O s t) ∧ IsOper w' b (markO O s t) ∧ Chg [b.bl, b.br] w w' := by
  rcases Bool.eq_false_or_eq_true (srcOk O s) with hs | hs
  · have hs' : 0 ≤ s ∧ s < O.ms.length := by simpa [srcOk] using hs
    rcases Bool.eq_false_or_eq_true (timeOk t) with ht | ht
    · have ht' : -1152921504606846976 ≤ t ∧ t ≤ 1152921504606846976 := by simpa [timeOk] using ht
      simp only [markE, markX, markO, hs, ht, true_and, and_true, and_self, false_and, and_false, if_true, if_false, reduceCtorEq, Bool.false_eq_true, Bool.true_eq_false]
      exact mark_ok b O s t w h hs'.1 hs'.2 ht'.1 ht'.2 hmax
    · have ht' : t < -1152921504606846976 ∨ 1152921504606846976 < t := by simp [timeOk] at ht; omega
      simp only [markE, markX, markO, hs, ht, true_and, and_true, and_self, false_and, and_false, if_true, if_false, reduceCtorEq, Bool.false_eq_true, Bool.true_eq_false]
      exact (mark_time b O s t w h hs'.1 hs'.2 ht').mono fun e w' ⟨h1, h2⟩ => ⟨_, h1, Own.nil _ _ _ _ _, by subst h2; exact h, by subst h2; exact Chg.refl _ _⟩
  · have hs' : s < 0 ∨ O.ms.length ≤ s := by simp [srcOk] at hs; omega
    simp only [markE, markX, markO, hs, true_and, and_true, and_self, false_and, and_false, if_true, if_false, reduceCtorEq, Bool.false_eq_true, Bool.true_eq_false]
    exact (mark_src b O s t w h hs').mono fun e w' ⟨h1, h2⟩ => ⟨_, h1, Own.nil _ _ _ _ _, by subst h2; exact h, by subst h2; exact Chg.refl _ _⟩
theorem refMark_all (b : RefB) (O : Op14) (s t : Int) (w : World) (h : IsRef w b O) (hmax : O.live.length ≤ 100000000) :
    Calls Try.prog 36 #[.pointer (some ⟨b.rp, 0, none⟩), .int .i64 s, .int .i64 t] w fun e w' => ∃ v, e = .returned (.tuple #[v, .int .i64 (markE O s t)]) ∧ Own 51 3 cellL w.heap.size w' v (markX O s t) ∧ IsRef w' b (markO O s t) ∧ Chg [b.rp, b.rl] w w' := by
  rcases Bool.eq_false_or_eq_true (srcOk O s) with hs | hs
  · have hs' : 0 ≤ s ∧ s < O.ms.length := by simpa [srcOk] using hs
    rcases Bool.eq_false_or_eq_true (timeOk t) with ht | ht
    · have ht' : -1152921504606846976 ≤ t ∧ t ≤ 1152921504606846976 := by simpa [timeOk] using ht
      simp only [markE, markX, markO, hs, ht, true_and, and_true, and_self, false_and, and_false, if_true, if_false, reduceCtorEq, Bool.false_eq_true, Bool.true_eq_false]
      exact refMark_ok b O s t w h hs'.1 hs'.2 ht'.1 ht'.2 hmax
    · have ht' : t < -1152921504606846976 ∨ 1152921504606846976 < t := by simp [timeOk] at ht; omega
      simp only [markE, markX, markO, hs, ht, true_and, and_true, and_self, false_and, and_false, if_true, if_false, reduceCtorEq, Bool.false_eq_true, Bool.true_eq_false]
      exact (refMark_time b O s t w h hs'.1 hs'.2 ht').mono fun e w' ⟨h1, h2⟩ => ⟨_, h1, Own.nil _ _ _ _ _, by subst h2; exact h, by subst h2; exact Chg.refl _ _⟩
  · have hs' : s < 0 ∨ O.ms.length ≤ s := by simp [srcOk] at hs; omega
    simp only [markE, markX, markO, hs, true_and, and_true, and_self, false_and, and_false, if_true, if_false, reduceCtorEq, Bool.false_eq_true, Bool.true_eq_false]
    exact (refMark_src b O s t w h hs').mono fun e w' ⟨h1, h2⟩ => ⟨_, h1, Own.nil _ _ _ _ _, by subst h2; exact h, by subst h2; exact Chg.refl _ _⟩

/-- What Wrote leaves. -/
def wroteO (O : Op14) (cs : List Cell) : Op14 := if wroteE O cs = 0 then { O with live := insL O.live cs } else O
theorem wrote_all (b : OpB) (O : Op14) (a : Option Addr) (cap : Nat) (cs : List Cell) (w : World) (h : IsOper w b O) (hs : Sl 3 cellL w a cs) (hl : cs.length ≤ 1000000000) :
    Calls Try.prog 33 #[.pointer (some ⟨b.bp, 0, none⟩), .slice a cs.length cap] w fun e w' => e = .returned (.int .i64 (wroteE O cs)) ∧ IsOper w' b (wroteO O cs) ∧ Chg [b.br] w w' := by
  by_cases he : wroteE O cs = 0
  · unfold wroteO
    rw [if_pos he, he]
    exact wrote_ok b O a cap cs w h hs hl he
  · unfold wroteO
    rw [if_neg he]
    exact (wrote_bad b O a cap cs w h hs hl he).mono fun e w' ⟨h1, h2⟩ => ⟨h1, h.below h2, (Chg.of_below h2).mono (by simp)⟩
theorem refWrote_all (b : RefB) (O : Op14) (a : Option Addr) (cap : Nat) (cs : List Cell) (w : World) (h : IsRef w b O) (hs : Sl 3 cellL w a cs) (hne : cs ≠ [] → ∀ g off sp, a = some ⟨g, off, sp⟩ → g ≠ b.rp) (hl : O.live.length + cs.length ≤ 100000000) :
    Calls Try.prog 50 #[.pointer (some ⟨b.rp, 0, none⟩), .slice a cs.length cap] w fun e w' => e = .returned (.int .i64 (wroteE O cs)) ∧ IsRef w' b (wroteO O cs) ∧ Chg [b.rp] w w' := by
  by_cases he : wroteE O cs = 0
  · unfold wroteO
    rw [if_pos he, he]
    exact refWrote_ok b O a cap cs w h hs hne hl he
  · unfold wroteO
    rw [if_neg he]
    exact (refWrote_bad b O a cap cs w h hs (by omega) he).mono fun e w' ⟨h1, h2⟩ => ⟨h1, h.below h2, (Chg.of_below h2).mono (by simp)⟩
theorem wroteO_len (O : Op14) (cs : List Cell) : (wroteO O cs).live.length ≤ O.live.length + cs.length := by
  unfold wroteO
  split
  · exact insL_length _ _
  · omega
theorem markO_len (O : Op14) (s t : Int) : (markO O s t).live.length ≤ O.live.length := by
  unfold markO
  split
  · exact List.length_filter_le _ _
  · omega

theorem cut_any (a : Option Addr) (cap : Nat) (xs : List Cell) (w : World) (hc : xs.length ≤ cap) : Calls Try.prog 51 #[.slice a xs.length cap] w fun e w' => e = .returned (.slice a (xs.take 300).length cap) ∧ w = w' := by
  by_cases h : 300 < xs.length
  · rw [show (xs.take 300).length = 300 from by rw [List.length_take]; omega]
    go_enter Try.func51, Try.ntmps51
    go_wp2_with fail
    go_ret
    exact ⟨rfl, rfl⟩
  · rw [List.take_of_length_le (by omega)]
    go_enter Try.func51, Try.ntmps51
    go_wp2_with fail
    go_ret
    exact ⟨rfl, rfl⟩
end Go.Proofs.Ytheimbhnckaonaa
