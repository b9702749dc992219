/- The contract of oper.New. -/
import Derived.Test.YtheimbhnckaonaaRefN
set_option linter.unusedVariables false
set_option linter.unusedSimpArgs false
namespace Go.Proofs.Ytheimbhnckaonaa
open Go.RowKit

set_option maxHeartbeats 1000000 in
theorem new_len (a : Option Addr) (cap : Nat) (vs : List View) (n : Int) (w : World) (hl : vs.length < 1 ∨ 4 < vs.length) :
    Calls Try.prog 17 #[.slice a vs.length cap, .int .i64 n] w fun e w' => e = .returned (.tuple #[.pointer none, .int .i64 24]) ∧ w = w' := by
  rcases hl with hl | hl
  · have h1 : (vs.length : Int) < 1 := by omega
    clear hl
    go_enter Try.func17, Try.ntmps17
    go_wp2_with fail
    go_ret2
    exact ⟨rfl, rfl⟩
  · have h1 : ¬ (vs.length : Int) < 1 := by omega
    have h2 : 4 < (vs.length : Int) := by omega
    clear hl
    go_enter Try.func17, Try.ntmps17
    go_wp2_with fail
    go_ret2
    exact ⟨rfl, rfl⟩

set_option maxHeartbeats 1000000 in
theorem new_view (a : Option Addr) (cap : Nat) (vs : List View) (n : Int) (w : World) (hs : Sl 3 viewL w a vs) (hl : 1 ≤ vs.length) (hl2 : vs.length ≤ 4) (hv : vs.all View.ok = false) :
    Calls Try.prog 17 #[.slice a vs.length cap, .int .i64 n] w fun e w' => e = .returned (.tuple #[.pointer none, .int .i64 24]) ∧ Below w.heap.size w w' := by
  have h1 : ¬ (vs.length : Int) < 1 := by omega
  have h2 : ¬ 4 < (vs.length : Int) := by omega
  go_enter Try.func17, Try.ntmps17
  go_wp2_with fail
  go_loopg [7, 20] vs.length (fun g _ i wr => ∃ j : Nat, j + g = vs.length ∧ i = .int .i64 j ∧ (∀ i (hi : i < vs.length), i < j → vs[i].ok = true) ∧ Below w.heap.size w wr)
  case atStart => exact ⟨0, by omega, rfl, fun i _ h => absurd h (Nat.not_lt_zero _), Below.refl _ _⟩
  case round =>
    obtain ⟨j, hj, rfl, hall, hb⟩ := hrel
    have Hj := Lib.hid hj
    have Hall := Lib.hid hall
    have hzb := hb.size
    clear hj hall
    by_cases hlt : j < vs.length
    · obtain ⟨ob, oo, rfl, hob, h0, h1, h2⟩ := hs.at3 hlt rfl
      have d0 := (hb.cell (p := ⟨ob, _, none⟩) hob).trans h0
      have d1 := (hb.cell (p := ⟨ob, _, none⟩) hob).trans h1
      have d2 := (hb.cell (p := ⟨ob, _, none⟩) hob).trans h2
      clear h0 h1 h2
      have hc := fun W => check_any vs[j].size vs[j].slide vs[j].late W
      rw [show View.chk ⟨vs[j].size, vs[j].slide, vs[j].late⟩ = View.chk vs[j] from rfl] at hc
      cases hz : vs[j].ok
      · rw [chk_ne hz] at hc
        clear hz
        generalize vs[j].size = x at *
        generalize vs[j].slide = y at *
        generalize vs[j].late = z at *
        go_wp2_with fail
        refine (hc _).mono ?_
        rintro e w1 ⟨rfl, hb1⟩
        go_wp2_with fail
        try rw [Exit.noGoto_ret]
        go_ret2
        exact ⟨rfl, (hb.alloc hzb _).trans (hb1.mono (by simp; omega))⟩
      · rw [chk_eq hz] at hc
        have Hz := Lib.hid hz
        clear hz
        generalize vs[j].size = x at *
        generalize vs[j].slide = y at *
        generalize vs[j].late = z at *
        go_wp2_with fail
        refine (hc _).mono ?_
        rintro e w1 ⟨rfl, hb1⟩
        go_wp2_with fail
        go_roundg (gk - 1)
        case measure => have := Hj.out; omega
        case rel =>
          refine ⟨j + 1, by have := Hj.out; omega, by go_num, fun i hi hij => ?_, (hb.alloc hzb _).trans (hb1.mono (by simp; omega))⟩
          by_cases e : i = j
          · subst e; exact Hz.out
          · exact Hall.out i hi (by omega)
    · exfalso
      have : vs.all View.ok = true := by
        rw [List.all_eq_true]
        intro v hv
        obtain ⟨i, hi, rfl⟩ := List.getElem_of_mem hv
        exact Hall.out i hi (by have := Hj.out; omega)
      rw [this] at hv
      cases hv

set_option maxHeartbeats 4000000 in
theorem new_src (a : Option Addr) (cap : Nat) (vs : List View) (n : Int) (w : World) (hs : Sl 3 viewL w a vs) (hl : 1 ≤ vs.length) (hl2 : vs.length ≤ 4) (hv : vs.all View.ok = true) (hn : n < 1 ∨ 8 < n) :
    Calls Try.prog 17 #[.slice a vs.length cap, .int .i64 n] w fun e w' => e = .returned (.tuple #[.pointer none, .int .i64 1]) ∧ Below w.heap.size w w' := by
  have h1 : ¬ (vs.length : Int) < 1 := by omega
  have h2 : ¬ 4 < (vs.length : Int) := by omega
  have hall : ∀ v ∈ vs, v.ok = true := List.all_eq_true.1 hv
  have Hall := Lib.hid hall
  have hm := fun W => marksNew_bad n W hn
  clear hall hv
  go_enter Try.func17, Try.ntmps17
  go_wp2_with fail
  go_loopg [7, 20] vs.length (fun g _ i wr => ∃ j : Nat, j + g = vs.length ∧ i = .int .i64 j ∧ Below w.heap.size w wr)
  case atStart => exact ⟨0, by omega, rfl, Below.refl _ _⟩
  case round =>
    obtain ⟨j, hj, rfl, hb⟩ := hrel
    have Hj := Lib.hid hj
    have hzb := hb.size
    clear hj
    by_cases hlt : j < vs.length
    · obtain ⟨ob, oo, rfl, hob, h0, h1, h2⟩ := hs.at3 hlt rfl
      have d0 := (hb.cell (p := ⟨ob, _, none⟩) hob).trans h0
      have d1 := (hb.cell (p := ⟨ob, _, none⟩) hob).trans h1
      have d2 := (hb.cell (p := ⟨ob, _, none⟩) hob).trans h2
      clear h0 h1 h2
      have hc := fun W => check_any vs[j].size vs[j].slide vs[j].late W
      rw [show View.chk ⟨vs[j].size, vs[j].slide, vs[j].late⟩ = View.chk vs[j] from rfl, chk_eq (Hall.out _ (List.getElem_mem hlt))] at hc
      generalize vs[j].size = x at *
      generalize vs[j].slide = y at *
      generalize vs[j].late = z at *
      go_wp2_with fail
      refine (hc _).mono ?_
      rintro e w1 ⟨rfl, hb1⟩
      go_wp2_with fail
      go_roundg (gk - 1)
      case measure => have := Hj.out; omega
      case rel => exact ⟨j + 1, by have := Hj.out; omega, by go_num, (hb.alloc hzb _).trans (hb1.mono (by simp; omega))⟩
    · have hjl : j = vs.length := by have := Hj.out; omega
      clear Hj
      go_wp2_with fail
      refine (hm _).mono ?_
      rintro e w1 ⟨rfl, rfl⟩
      go_wp2_with fail
      go_ret2
      exact ⟨rfl, hb⟩

set_option maxHeartbeats 4000000 in
theorem new_ok (a : Option Addr) (cap : Nat) (vs : List View) (n : Int) (w : World) (hs : Sl 3 viewL w a vs) (hl : 1 ≤ vs.length) (hl2 : vs.length ≤ 4) (hv : vs.all View.ok = true) (hn : 1 ≤ n) (hn2 : n ≤ 8) :
    Calls Try.prog 17 #[.slice a vs.length cap, .int .i64 n] w fun e w' => ∃ b : OpB, e = .returned (.tuple #[.pointer (some ⟨b.bp, 0, none⟩), .int .i64 0]) ∧ IsOper w' b ⟨vs, List.replicate n.toNat noMark, []⟩ ∧ Below w.heap.size w w' ∧ w.heap.size ≤ b.bp ∧ w.heap.size ≤ b.bl ∧ w.heap.size ≤ b.br ∧ (∀ g off sp, b.av = some ⟨g, off, sp⟩ → w.heap.size ≤ g) := by
  have h1 : ¬ (vs.length : Int) < 1 := by omega
  have h2 : ¬ 4 < (vs.length : Int) := by omega
  have hall : ∀ v ∈ vs, v.ok = true := List.all_eq_true.1 hv
  have Hall := Lib.hid hall
  have hm := fun W => marksNew_any n W hn hn2
  clear hall hv
  go_enter Try.func17, Try.ntmps17
  go_wp2_with fail
  go_loopg [7, 20] vs.length (fun g _ i wr => ∃ j : Nat, j + g = vs.length ∧ i = .int .i64 j ∧ Below w.heap.size w wr)
  case atStart => exact ⟨0, by omega, rfl, Below.refl _ _⟩
  case round =>
    obtain ⟨j, hj, rfl, hb⟩ := hrel
    have Hj := Lib.hid hj
    have hzb := hb.size
    clear hj
    by_cases hlt : j < vs.length
    · obtain ⟨ob, oo, rfl, hob, h0, h1, h2⟩ := hs.at3 hlt rfl
      have d0 := (hb.cell (p := ⟨ob, _, none⟩) hob).trans h0
      have d1 := (hb.cell (p := ⟨ob, _, none⟩) hob).trans h1
      have d2 := (hb.cell (p := ⟨ob, _, none⟩) hob).trans h2
      clear h0 h1 h2
      have hc := fun W => check_any vs[j].size vs[j].slide vs[j].late W
      rw [show View.chk ⟨vs[j].size, vs[j].slide, vs[j].late⟩ = View.chk vs[j] from rfl, chk_eq (Hall.out _ (List.getElem_mem hlt))] at hc
      generalize vs[j].size = x at *
      generalize vs[j].slide = y at *
      generalize vs[j].late = z at *
      go_wp2_with fail
      refine (hc _).mono ?_
      rintro e w1 ⟨rfl, hb1⟩
      go_wp2_with fail
      go_roundg (gk - 1)
      case measure => have := Hj.out; omega
      case rel => exact ⟨j + 1, by have := Hj.out; omega, by go_num, (hb.alloc hzb _).trans (hb1.mono (by simp; omega))⟩
    · have hjl : j = vs.length := by have := Hj.out; omega
      clear Hj
      go_wp2_with fail
      refine (hm _).mono ?_
      rintro e w1 ⟨rfl, hmk, hb1⟩
      obtain ⟨va, voff, rfl, hva, _⟩ := hs.at3 (i := 0) (by omega) rfl
      have hb01 : Below w.heap.size w w1 := hb.trans (hb1.mono hzb)
      have hcl := cloneViews_any va voff cap vs w1 (hs.below hb01) (by omega)
      have Hmk := Lib.hid hmk
      have hz1 : wr.heap.size + 2 ≤ w1.heap.size := by have := hmk.lt; omega
      clear hmk
      go_wp2_with fail
      refine hcl.mono ?_
      rintro e w2 ⟨v2, rfl, hown, hb2⟩
      obtain ⟨o2, cap2, rfl, hc2, hsl2, hov, hun⟩ := hown.sl fun _ => rfl
      have Hown := Lib.hid hown
      clear hown
      have hmm : (Instr.makeMap 90 none).run Try.prog w2 = .ok (.map (some w2.heap.size)) (w2.alloc (.map #[] 0)) := rfl
      go_wp2_with fail
      clear hmm
      go_ret2
      have hb02 : Below w.heap.size w w2 := hb01.trans (hb2.mono hb01.size)
      have hz2 := hb2.size
      refine ⟨⟨w2.heap.size + 1, wr.heap.size + 1, wr.heap.size, w2.heap.size, o2, cap2⟩, rfl, ?_, (hb02.alloc hb02.size _).alloc (by have := hb02.size; simp; omega) _, by show w.heap.size ≤ w2.heap.size + 1; omega, hzb, by show w.heap.size ≤ w2.heap.size; omega, fun g off sp e => by have h9 : o2 = some ⟨g, off, sp⟩ := e; have := hov g off sp h9; have := hb01.size; omega⟩
      have hbf : Below w2.heap.size w2 ((w2.alloc (.map #[] 0)).alloc (.cells #[.slice o2 vs.length cap2, .pointer (some ⟨wr.heap.size + 1, 0, none⟩), .map (some w2.heap.size), .func (.func 47) #[.pointer (some ⟨wr.heap.size + 1, 0, none⟩)] #[], .func (.func 48) #[.pointer (some ⟨wr.heap.size + 1, 0, none⟩)] #[]] 94)) := ((Below.refl _ _).alloc (Nat.le_refl _) _).alloc (by simp) _
      have hbf1 := hb2.trans (hbf.mono hz2)
      refine ⟨?_, ?_, ?_, hl, hl2, Hall.out, ?_, ⟨[], ⟨by simp, #[], 0, ?_, by simp, by simp, by simp⟩, by simp⟩, List.Pairwise.nil, fun c hc => by cases hc⟩
      · show _ = _
        exact blk_at (by simp)
      · exact Hmk.out.keep (hbf1.block (wr.heap.size + 1) (by omega)) (hbf1.block wr.heap.size (by omega))
      · exact (Hown.out.below hbf).sl0 (fun _ => rfl)
      · intro g off sp e
        have h9 : o2 = some ⟨g, off, sp⟩ := e
        have h10 := Hown.out.ge (g := g) (by rw [h9]; rfl)
        refine ⟨?_, ?_, ?_⟩
        · show g ≠ wr.heap.size; omega
        · show g ≠ w2.heap.size; omega
        · simp; omega
      · rw [blk_old (by simp)]
        exact blk_at rfl
end Go.Proofs.Ytheimbhnckaonaa
