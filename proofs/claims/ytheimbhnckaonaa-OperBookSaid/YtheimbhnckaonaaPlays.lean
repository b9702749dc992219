/- The walk of the law OperPlays. -/
import Derived.Test.YtheimbhnckaonaaKnown
set_option linter.unusedVariables false
set_option linter.unusedSimpArgs false
namespace Go.Proofs.Ytheimbhnckaonaa
open Go.RowKit

/-- A step as it lies: its fields; its cells: where they lie, how much room, which. -/
structure St where
  kind : Int
  source : Int
  key : ByteArray
  t : Int
  v : Int
  A : Option Addr
  cap : Nat
  cs : List Cell
def stL (s : St) : List Value := [.int .i64 s.kind, .int .i64 s.source, .string s.key, .int .i64 s.t, .int .i64 s.v, .slice s.A s.cs.length s.cap]
structure StOk (w : World) (s : St) : Prop where
  sl : Sl 3 cellL w s.A s.cs
  under : s.cs ≠ [] → Under w.heap.size s.A
  cap : s.cs.length ≤ s.cap
theorem StOk.slB {w w' : World} {s : St} (h : StOk w s) (k : Below w.heap.size w w') : Sl 3 cellL w' s.A s.cs := by
  by_cases e : s.cs = []
  · rw [e]; exact Sl.nil _ _ _ _
  · exact h.sl.belowB k (h.under e)

theorem Sl.at6 {sz : Nat} {w : World} {a : Option Addr} {xs : List St} (h : Sl sz stL w a xs) {i : Nat} (hi : i < xs.length) :
    ∃ b off, a = some ⟨b, off, none⟩ ∧ b < w.heap.size ∧ w.cell? ⟨b, off + i * sz, none⟩ = some (.int .i64 xs[i].kind) ∧ w.cell? ⟨b, off + i * sz + 1, none⟩ = some (.int .i64 xs[i].source) ∧ w.cell? ⟨b, off + i * sz + 2, none⟩ = some (.string xs[i].key) ∧
      w.cell? ⟨b, off + i * sz + 3, none⟩ = some (.int .i64 xs[i].t) ∧ w.cell? ⟨b, off + i * sz + 4, none⟩ = some (.int .i64 xs[i].v) ∧ w.cell? ⟨b, off + i * sz + 5, none⟩ = some (.slice xs[i].A xs[i].cs.length xs[i].cap) := by
  obtain ⟨b, off, rfl, hlt, hc⟩ := h i hi
  exact ⟨b, off, rfl, hlt, hc 0 _ rfl, hc 1 _ rfl, hc 2 _ rfl, hc 3 _ rfl, hc 4 _ rfl, hc 5 _ rfl⟩

/-- Where the new operators fail, both tell the same error. -/
theorem new_bad (a : Option Addr) (cap : Nat) (vs : List View) (n : Int) (w : World) (hs : Sl 3 viewL w a vs) (he : newE vs n ≠ 0) :
    Calls Try.prog 17 #[.slice a vs.length cap, .int .i64 n] w fun e w' => e = .returned (.tuple #[.pointer none, .int .i64 (newE vs n)]) ∧ Below w.heap.size w w' := by
  unfold newE at he ⊢
  by_cases h1 : vs.length < 1 ∨ 4 < vs.length
  · rw [if_pos h1]
    exact (new_len a cap vs n w h1).mono fun e w' ⟨h1, h2⟩ => ⟨h1, by subst h2; exact Below.refl _ _⟩
  · rw [if_neg h1] at he ⊢
    cases hv : vs.all View.ok
    · rw [if_pos rfl]
      exact new_view a cap vs n w hs (by omega) (by omega) hv
    · rw [hv, if_neg (by simp)] at he
      rw [if_neg (by simp)]
      by_cases hn : n < 1 ∨ 8 < n
      · rw [if_pos hn]
        exact new_src a cap vs n w hs (by omega) (by omega) hv hn
      · rw [if_neg hn] at he
        exact absurd rfl he

set_option maxHeartbeats 4000000 in
theorem refNew_src (a : Option Addr) (cap : Nat) (vs : List View) (n : Int) (w : World) (hs : Sl 3 viewL w a vs) (hl : 1 ≤ vs.length) (hl2 : vs.length ≤ 4) (hv : vs.all View.ok = true) (hn : n < 1 ∨ 8 < n) :
    Calls Try.prog 18 #[.slice a vs.length cap, .int .i64 n] w fun e w' => e = .returned (.tuple #[.pointer none, .int .i64 1]) ∧ Below w.heap.size w w' := by
  have h1 : ¬ (vs.length : Int) < 1 := by omega
  have h2 : ¬ 4 < (vs.length : Int) := by omega
  have hall : ∀ v ∈ vs, v.ok = true := List.all_eq_true.1 hv
  have Hall := Lib.hid hall
  have Hn := Lib.hid hn
  clear hall hv hn
  go_enter Try.func18, Try.ntmps18
  go_wp2_with fail
  go_loopg [6] vs.length (fun g i wr => ∃ j : Nat, j + g = vs.length ∧ i = .int .i64 j ∧ Below w.heap.size w wr)
  case atStart => exact ⟨0, by omega, rfl, Below.refl _ _⟩
  case round =>
    obtain ⟨j, hj, rfl, hb⟩ := hrel
    have Hj := Lib.hid hj
    clear hj
    by_cases hlt : j < vs.length
    · obtain ⟨ob, oo, rfl, hob, h0, h1, h2⟩ := hs.at3 hlt rfl
      have d0 := (hb.cell (p := ⟨ob, _, none⟩) hob).trans h0
      have d1 := (hb.cell (p := ⟨ob, _, none⟩) hob).trans h1
      have d2 := (hb.cell (p := ⟨ob, _, none⟩) hob).trans h2
      clear h0 h1 h2
      have hc := fun W => refCheck_any vs[j].size vs[j].slide vs[j].late W
      rw [show View.chk ⟨vs[j].size, vs[j].slide, vs[j].late⟩ = View.chk vs[j] from rfl, chk_eq (Hall.out _ (List.getElem_mem hlt))] at hc
      generalize vs[j].size = x at *
      generalize vs[j].slide = y at *
      generalize vs[j].late = z at *
      go_wp2_with fail
      refine (hc _).mono ?_
      rintro e w1 ⟨rfl, hb1⟩
      go_wp2_with fail
      go_roundg (gk - 1)
      case measure => have := Hj.out; omega
      case rel => exact ⟨j + 1, by have := Hj.out; omega, by go_num, hb.trans (hb1.mono hb.size)⟩
    · have hjl : j = vs.length := by have := Hj.out; omega
      rcases Hn.out with hn | hn
      · go_wp2_with fail
        go_ret2
        exact ⟨rfl, hb⟩
      · have hn' : ¬ n < 1 := by omega
        go_wp2_with fail
        go_ret2
        exact ⟨rfl, hb⟩
theorem refNew_bad (a : Option Addr) (cap : Nat) (vs : List View) (n : Int) (w : World) (hs : Sl 3 viewL w a vs) (he : newE vs n ≠ 0) :
    Calls Try.prog 18 #[.slice a vs.length cap, .int .i64 n] w fun e w' => e = .returned (.tuple #[.pointer none, .int .i64 (newE vs n)]) ∧ Below w.heap.size w w' := by
  unfold newE at he ⊢
  by_cases h1 : vs.length < 1 ∨ 4 < vs.length
  · rw [if_pos h1]
    exact (refNew_len a cap vs n w h1).mono fun e w' ⟨h1, h2⟩ => ⟨h1, by subst h2; exact Below.refl _ _⟩
  · rw [if_neg h1] at he ⊢
    cases hv : vs.all View.ok
    · rw [if_pos rfl]
      exact refNew_view a cap vs n w hs (by omega) (by omega) hv
    · rw [hv, if_neg (by simp)] at he
      rw [if_neg (by simp)]
      by_cases hn : n < 1 ∨ 8 < n
      · rw [if_pos hn]
        exact refNew_src a cap vs n w hs (by omega) (by omega) hv hn
      · rw [if_neg hn] at he
        exact absurd rfl he
theorem newE_ok {vs : List View} {n : Int} (h : newE vs n = 0) : 1 ≤ vs.length ∧ vs.length ≤ 4 ∧ vs.all View.ok = true ∧ 1 ≤ n ∧ n ≤ 8 := by
  unfold newE at h
  split at h
  · omega
  · split at h
    · omega
    · rename_i h2
      split at h
      · omega
      · exact ⟨by omega, by omega, by simpa using h2, by omega, by omega⟩
end Go.Proofs.Ytheimbhnckaonaa
