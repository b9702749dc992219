/- The contract of the document's New. -/
import Derived.Test.YtheimbhnckaonaaRefK
set_option linter.unusedVariables false
set_option linter.unusedSimpArgs false
namespace Go.Proofs.Ytheimbhnckaonaa
open Go.RowKit

/-- The error of a new operator, or 0. -/
def newE (vs : List View) (n : Int) : Int :=
  if vs.length < 1 ∨ 4 < vs.length then 24 else if vs.all View.ok = false then 24 else if n < 1 ∨ 8 < n then 1 else 0

theorem chk_ne {v : View} (h : v.ok = false) : View.chk v = 23 := by simp [View.chk, h]
theorem chk_eq {v : View} (h : v.ok = true) : View.chk v = 0 := by simp [View.chk, h]

set_option maxHeartbeats 1000000 in
theorem refNew_len (a : Option Addr) (cap : Nat) (vs : List View) (n : Int) (w : World) (hl : vs.length < 1 ∨ 4 < vs.length) :
    Calls Try.prog 18 #[.slice a vs.length cap, .int .i64 n] w fun e w' => e = .returned (.tuple #[.pointer none, .int .i64 24]) ∧ w = w' := by
  rcases hl with hl | hl
  · have h1 : (vs.length : Int) < 1 := by omega
    clear hl
    go_enter Try.func18, Try.ntmps18
    go_wp2_with fail
    go_ret2
    exact ⟨rfl, rfl⟩
  · have h1 : ¬ (vs.length : Int) < 1 := by omega
    have h2 : 4 < (vs.length : Int) := by omega
    clear hl
    go_enter Try.func18, Try.ntmps18
    go_wp2_with fail
    go_ret2
    exact ⟨rfl, rfl⟩

set_option maxHeartbeats 1000000 in
theorem refNew_view (a : Option Addr) (cap : Nat) (vs : List View) (n : Int) (w : World) (hs : Sl 3 viewL w a vs) (hl : 1 ≤ vs.length) (hl2 : vs.length ≤ 4) (hv : vs.all View.ok = false) :
    Calls Try.prog 18 #[.slice a vs.length cap, .int .i64 n] w fun e w' => e = .returned (.tuple #[.pointer none, .int .i64 24]) ∧ Below w.heap.size w w' := by
  have h1 : ¬ (vs.length : Int) < 1 := by omega
  have h2 : ¬ 4 < (vs.length : Int) := by omega
  go_enter Try.func18, Try.ntmps18
  go_wp2_with fail
  go_loopg [6] vs.length (fun g i wr => ∃ j : Nat, j + g = vs.length ∧ i = .int .i64 j ∧ (∀ i (hi : i < vs.length), i < j → vs[i].ok = true) ∧ Below w.heap.size w wr)
  case atStart => exact ⟨0, by omega, rfl, fun i _ h => absurd h (Nat.not_lt_zero _), Below.refl _ _⟩
  case round =>
    obtain ⟨j, hj, rfl, hall, hb⟩ := hrel
    have Hj := Lib.hid hj
    have Hall := Lib.hid hall
    clear hj hall
    by_cases hlt : j < vs.length
    · obtain ⟨ob, oo, rfl, hob, h0, h1, h2⟩ := hs.at3 hlt rfl
      have d0 := (hb.cell (p := ⟨ob, _, none⟩) hob).trans h0
      have d1 := (hb.cell (p := ⟨ob, _, none⟩) hob).trans h1
      have d2 := (hb.cell (p := ⟨ob, _, none⟩) hob).trans h2
      clear h0 h1 h2
      have hc := fun W => refCheck_any vs[j].size vs[j].slide vs[j].late W
      rw [show View.chk ⟨vs[j].size, vs[j].slide, vs[j].late⟩ = View.chk vs[j] from rfl] at hc
      cases hz : vs[j].ok
      · rw [chk_ne hz] at hc
        clear hz
        generalize vs[j].size = x at *
        generalize vs[j].slide = y at *
        generalize vs[j].late = z at *
        go_wp2_with fail
        refine (hc _).mono ?_
        rintro e w1 ⟨rfl, hb1⟩
        go_wp2_with fail
        go_ret2
        exact ⟨rfl, hb.trans (hb1.mono hb.size)⟩
      · rw [chk_eq hz] at hc
        have Hz := Lib.hid hz
        clear hz
        generalize vs[j].size = x at *
        generalize vs[j].slide = y at *
        generalize vs[j].late = z at *
        go_wp2_with fail
        refine (hc _).mono ?_
        rintro e w1 ⟨rfl, hb1⟩
        go_wp2_with fail
        go_roundg (gk - 1)
        case measure => have := Hj.out; omega
        case rel =>
          refine ⟨j + 1, by have := Hj.out; omega, by go_num, fun i hi hij => ?_, hb.trans (hb1.mono hb.size)⟩
          by_cases e : i = j
          · subst e; exact Hz.out
          · exact Hall.out i hi (by omega)
    · exfalso
      have : vs.all View.ok = true := by
        rw [List.all_eq_true]
        intro v hv
        obtain ⟨i, hi, rfl⟩ := List.getElem_of_mem hv
        exact Hall.out i hi (by have := Hj.out; omega)
      rw [this] at hv
      cases hv

set_option maxHeartbeats 4000000 in
theorem refNew_ok (a : Option Addr) (cap : Nat) (vs : List View) (n : Int) (w : World) (hs : Sl 3 viewL w a vs) (hl : 1 ≤ vs.length) (hl2 : vs.length ≤ 4) (hv : vs.all View.ok = true) (hn : 1 ≤ n) (hn2 : n ≤ 8) :
    Calls Try.prog 18 #[.slice a vs.length cap, .int .i64 n] w fun e w' => ∃ b : RefB, e = .returned (.tuple #[.pointer (some ⟨b.rp, 0, none⟩), .int .i64 0]) ∧ IsRef w' b ⟨vs, List.replicate n.toNat noMark, []⟩ ∧ Below w.heap.size w w' ∧ w.heap.size ≤ b.rp ∧ w.heap.size ≤ b.rl ∧ (∀ W l, Chg l w' W → (∀ g ∈ l, g < w.heap.size) → IsRef W b ⟨vs, List.replicate n.toNat noMark, []⟩) := by
  have h1 : ¬ (vs.length : Int) < 1 := by omega
  have h2 : ¬ 4 < (vs.length : Int) := by omega
  have hall : ∀ v ∈ vs, v.ok = true := List.all_eq_true.1 hv
  have Hall := Lib.hid hall
  obtain ⟨k, rfl⟩ := Int.eq_ofNat_of_zero_le (by omega : 0 ≤ n)
  rw [Int.toNat_natCast]
  clear hall hv
  go_enter Try.func18, Try.ntmps18
  go_wp2_with fail
  go_loopg [6] vs.length (fun g i wr => ∃ j : Nat, j + g = vs.length ∧ i = .int .i64 j ∧ Below w.heap.size w wr)
  case atStart => exact ⟨0, by omega, rfl, Below.refl _ _⟩
  case round =>
    obtain ⟨j, hj, rfl, hb⟩ := hrel
    have Hj := Lib.hid hj
    clear hj
    by_cases hlt : j < vs.length
    · obtain ⟨ob, oo, rfl, hob, h0, h1, h2⟩ := hs.at3 hlt rfl
      have d0 := (hb.cell (p := ⟨ob, _, none⟩) hob).trans h0
      have d1 := (hb.cell (p := ⟨ob, _, none⟩) hob).trans h1
      have d2 := (hb.cell (p := ⟨ob, _, none⟩) hob).trans h2
      clear h0 h1 h2
      have hc := fun W => refCheck_any vs[j].size vs[j].slide vs[j].late W
      rw [show View.chk ⟨vs[j].size, vs[j].slide, vs[j].late⟩ = View.chk vs[j] from rfl, chk_eq (Hall.out _ (List.getElem_mem hlt))] at hc
      generalize vs[j].size = x at *
      generalize vs[j].slide = y at *
      generalize vs[j].late = z at *
      go_wp2_with fail
      refine (hc _).mono ?_
      rintro e w1 ⟨rfl, hb1⟩
      go_wp2_with fail
      go_roundg (gk - 1)
      case measure => have := Hj.out; omega
      case rel => exact ⟨j + 1, by have := Hj.out; omega, by go_num, hb.trans (hb1.mono hb.size)⟩
    · have hjl : j = vs.length := by have := Hj.out; omega
      have hzr := hb.size
      have hs1 := (hs.below hb)
      have Hs1 := Lib.hid hs1
      have hsA := Lib.hid (hs.below (hb.alloc hzr (.cells #[.slice none 0 0, .slice none 0 0, .slice none 0 0] 42)))
      clear hs1
      go_wp2_with (at_builtin; refine wpList_app st_view rfl _ _ rfl viewL (fun _ => rfl) cells1_view (wr.heap.size + 1) _ [] rfl (Own.nil _ _ _ _ _) a vs.length cap vs rfl rfl ?c1 ?c2 ?c3 ?c4 ?_)
      case c1 => exact hsA.out
      try any_goals (first | omega | (simp; done) | (simp; omega) | decide)
      intro v5 w5 own5 hgr5 _
      have hz5 := hgr5.size
      simp at hz5
      have hb5 : Below w.heap.size w w5 := (hb.alloc hzr _).grown hgr5 (by simp; omega) (fun g hg => by cases hg)
      have hobj5 : w5.heap[wr.heap.size]? = some (.cells #[.slice none 0 0, .slice none 0 0, .slice none 0 0] 42 (0, 0)) := (hgr5.block _ (by simp) (fun e => by cases e)).trans (blk_at rfl)
      obtain ⟨o5, cap5, rfl, _, _, _, _⟩ := own5.sl fun _ => rfl
      have fz5 : w5.frozen? ⟨wr.heap.size, 0, none⟩ = false := by simp [World.frozen?, hobj5]
      have k50 : w5.cell? ⟨wr.heap.size, 0, none⟩ = some (.slice none 0 0) := by simp [World.cell?, hobj5]
      have own6 := Lib.hid (own5.setObj hobj5 (by decide) (.slice o5 vs.length cap5) (off := 0))
      have hobj6 := Lib.hid (setCell_at (off := 0) hobj5 (.slice o5 vs.length cap5))
      have hb6 : Below w.heap.size w (w5.setCell ⟨wr.heap.size, 0, none⟩ (.slice o5 vs.length cap5)) := hb5.setCell (by show w.heap.size ≤ wr.heap.size; exact hzr) _
      have hz6 : wr.heap.size + 1 ≤ (w5.setCell ⟨wr.heap.size, 0, none⟩ (.slice o5 vs.length cap5)).heap.size := by simp [World.setCell]; omega
      clear own5 hobj5
      go_wp2_with fail
      generalize w5.setCell ⟨wr.heap.size, 0, none⟩ (.slice o5 vs.length cap5) = w6 at *
      generalize hrp : wr.heap.size = rp at *
      go_loopg [8] k (fun g i wr => ∃ (j : Nat) (m : Value), j + g = k ∧ i = .int .i64 j ∧ wr.heap[rp]? = some (.cells #[.slice o5 vs.length cap5, m, .slice none 0 0] 42 (0, 0)) ∧ Own 2 1 i64L (rp + 1) wr m (List.replicate j noMark) ∧ Own 49 3 viewL (rp + 1) wr (.slice o5 vs.length cap5) vs ∧ Below w.heap.size w wr ∧ rp + 1 ≤ wr.heap.size)
      case atStart => exact ⟨0, .slice none 0 0, by omega, rfl, hobj6.out, Own.nil _ _ _ _ _, own6.out, hb6, hz6⟩
      case round =>
        obtain ⟨j, m, hj, rfl, hobj, hm, hvs, hbr, hzz⟩ := hrel
        have Hj := Lib.hid hj
        obtain ⟨om, capm, em, _, _, _, _⟩ := hm.sl fun _ => rfl
        rw [List.length_replicate] at em
        subst em
        have c0 : wr.cell? ⟨rp, 0, none⟩ = some (.slice o5 vs.length cap5) := by simp [World.cell?, hobj]
        have c1 : wr.cell? ⟨rp, 1, none⟩ = some (.slice om j capm) := by simp [World.cell?, hobj]
        clear hj
        by_cases hlt : j < k
        · have Hobj := Lib.hid hobj
          have Hm := Lib.hid (hm.alloc (.cells #[.int .i64 noMark] 2))
          have Hvs := Lib.hid (hvs.alloc (.cells #[.int .i64 noMark] 2))
          have hba : Below w.heap.size w (wr.alloc (.cells #[.int .i64 noMark] 2)) := hbr.alloc hbr.size _
          have hzw := hbr.size
          clear hobj hm hvs
          go_wp2_with (at_builtin; refine wpList_app st_i64 rfl _ _ rfl i64L (fun _ => rfl) cells1_i64 (rp + 1) _ (List.replicate j noMark) rfl Hm.out (some ⟨wr.heap.size, 0, none⟩) 1 1 [noMark] rfl rfl ?d1 ?d2 ?d3 ?d4 ?_)
          case d1 => have h9 := sl_new (sz := 1) (enc := i64L) noMark wr 2 (cs := #[.int .i64 noMark]) rfl; exact h9
          try any_goals (first | omega | (simp; done) | (simp; omega) | decide)
          intro v7 w7 own7 hgr7 _
          have hz7 := hgr7.size
          simp at hz7
          have hge : ∀ g, (Value.slice om j capm).ownBlock = some g → rp + 1 ≤ g := fun g hg => (Hm.out.ge hg).1
          have hb7 : Below w.heap.size w w7 := hba.grown hgr7 (by simp; omega) (fun g hg => by have := hge g hg; omega)
          have hobj7 : w7.heap[rp]? = some (.cells #[.slice o5 vs.length cap5, .slice om j capm, .slice none 0 0] 42 (0, 0)) := (hgr7.block _ (by simp; omega) (fun e => by have := hge _ e.symm; omega)).trans ((blk_old (by omega)).trans Hobj.out)
          have hvs7 := Hvs.out.grownNe hgr7 Hm.out (by decide)
          obtain ⟨o7, cap7, e7, _, _, _, _⟩ := own7.sl fun _ => rfl
          rw [← List.replicate_succ', List.length_replicate] at e7
          subst e7
          rw [← List.replicate_succ'] at own7
          have fz7 : w7.frozen? ⟨rp, 1, none⟩ = false := by simp [World.frozen?, hobj7]
          have k71 : w7.cell? ⟨rp, 1, none⟩ = some (.slice om j capm) := by simp [World.cell?, hobj7]
          have own8 := Lib.hid (own7.setObj hobj7 (by decide) (.slice o7 (j + 1) cap7) (off := 1))
          have hvs8 := Lib.hid (hvs7.setObj hobj7 (by decide) (.slice o7 (j + 1) cap7) (off := 1))
          have hobj8 := Lib.hid (setCell_at (off := 1) hobj7 (.slice o7 (j + 1) cap7))
          have hb8 : Below w.heap.size w (w7.setCell ⟨rp, 1, none⟩ (.slice o7 (j + 1) cap7)) := hb7.setCell (by show w.heap.size ≤ rp; omega) _
          have hz8 : rp + 1 ≤ (w7.setCell ⟨rp, 1, none⟩ (.slice o7 (j + 1) cap7)).heap.size := by simp [World.setCell]; omega
          clear own7 hobj7 hvs7
          go_wp2_with fail
          go_roundg (gk - 1)
          case measure => have := Hj.out; omega
          case rel => exact ⟨j + 1, .slice o7 (j + 1) cap7, by have := Hj.out; omega, by go_num, hobj8.out, own8.out, hvs8.out, hb8, hz8⟩
        · have hjl : j = k := by have := Hj.out; omega
          subst hjl
          obtain ⟨g, rfl, hg1, hg2⟩ := hm.pos (by simp; omega)
          have Hobj := Lib.hid hobj
          have Hm := Lib.hid hm
          have Hvs := Lib.hid hvs
          clear hobj hm hvs
          go_wp2_with fail
          go_ret2
          have hfin : ∀ W l, Chg l wr W → (∀ g' ∈ l, g' < w.heap.size) → IsRef W ⟨rp, g, capm, .slice o5 vs.length cap5, []⟩ ⟨vs, List.replicate j noMark, []⟩ := by
            intro W l hc hl9
            have k1 := Hm.out.chg hc (fun g' hg' h9 => by have := (Hm.out.ge hg').1; have := hl9 _ h9; omega)
            have k2 := Hvs.out.chg hc (fun g' hg' h9 => by have := (Hvs.out.ge hg').1; have := hl9 _ h9; omega)
            have k3 := (hc.block rp (by omega) (fun h9 => by have := hl9 _ h9; omega)).trans Hobj.out
            exact ⟨⟨.slice none 0 0, by rw [List.length_replicate]; exact k3, Own.nil _ _ _ _ _⟩, by rw [List.length_replicate]; exact Own.mono k1 (Nat.zero_le _), Own.mono k2 (Nat.zero_le _), hl, hl2, Hall.out, by rw [List.length_replicate]; omega, by rw [List.length_replicate]; omega, List.Pairwise.nil, (fun c hc => by cases hc), (fun g hg => by cases hg), (fun _ _ _ _ _ _ g hg => by cases hg)⟩
          exact ⟨⟨rp, g, capm, .slice o5 vs.length cap5, []⟩, rfl, hfin wr [] (Chg.refl _ _) (fun g' h => by cases h), hbr, by show w.heap.size ≤ rp; omega, by show w.heap.size ≤ g; omega, hfin⟩
end Go.Proofs.Ytheimbhnckaonaa
