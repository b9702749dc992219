/- CheckRequest: its parts. -/
import Derived.Test.YtaicecnfodhlcaaJ03
import Derived.BigQuiet
set_option linter.unusedVariables false
set_option linter.unusedSimpArgs false
namespace Go.Proofs.Ytaicecnfodhlcaa
open Go.RowKit Go.Deep

def isSmall (n : Int) : Bool := decide (0 ≤ n) && decide (n ≤ 1099511627776)
set_option maxHeartbeats 1000000 in
theorem small_any (n : Int) (w : World) : Calls Try.prog 61 #[.int .i64 n] w fun e w' => e = .returned (.bool (isSmall n)) ∧ w = w' := by
  by_cases h1 : 0 ≤ n
  · by_cases h2 : n ≤ 1099511627776
    · go_enter Try.func61, Try.ntmps61
      go_wp2_with fail
      go_ret
      exact ⟨ret_bool (by unfold isSmall; rw [decide_eq_true (by omega), decide_eq_true (by omega)]; rfl), rfl⟩
    · go_enter Try.func61, Try.ntmps61
      go_wp2_with fail
      go_ret
      exact ⟨ret_bool (by unfold isSmall; rw [decide_eq_false (p := n ≤ 1099511627776) (by omega)]; simp), rfl⟩
  · go_enter Try.func61, Try.ntmps61
    go_wp2_with fail
    go_ret
    exact ⟨ret_bool (by unfold isSmall; rw [decide_eq_false (by omega)]; rfl), rfl⟩
set_option maxRecDepth 100000 in
set_option maxHeartbeats 2000000 in
theorem equalCells_any (a b : Option Addr) (ca cb : Nat) (xs ys : List Cell) (w : World) (hx : Sl 3 cellL w a xs) (hy : Sl 3 cellL w b ys) (hl : xs.length ≤ 1000000000) :
    Calls Try.prog 79 #[.slice a xs.length ca, .slice b ys.length cb] w fun e w' => e = .returned (.bool (decide (xs = ys))) ∧ Below w.heap.size w w' := by
  by_cases hlen : xs.length = ys.length
  · have hn : ((xs.length : Int) != (ys.length : Int)) = false := by simp [hlen]
    have Hlen := Lib.hid hlen
    clear hlen
    go_enter Try.func79, Try.ntmps79
    go_wp2_with fail
    go_loopg [5, 13] xs.length (fun g _ i wr => ∃ j : Nat, j + g = xs.length ∧ i = .int .i64 j ∧ (∀ q, q < j → xs[q]? = ys[q]?) ∧ Below w.heap.size w wr)
    case atStart => exact ⟨0, by omega, rfl, fun q h => absurd h (Nat.not_lt_zero _), Below.refl _ _⟩
    case round =>
      obtain ⟨j, hj, rfl, hall, hb⟩ := hrel
      have Hj := Lib.hid hj
      have Hall := Lib.hid hall
      have Hb := Lib.hid hb
      clear hj hall hb
      by_cases hlt : j < xs.length
      · have hlt2 : j < ys.length := by have := Hlen.out; omega
        obtain ⟨xb, xo, rfl, hxb, x0, x1, x2⟩ := hx.at3 hlt rfl
        obtain ⟨yb, yo, rfl, hyb, y0, y1, y2⟩ := hy.at3 hlt2 rfl
        have d0 := (Hb.out.cell (p := ⟨xb, _, none⟩) hxb).trans x0
        have d1 := (Hb.out.cell (p := ⟨xb, _, none⟩) hxb).trans x1
        have d2 := (Hb.out.cell (p := ⟨xb, _, none⟩) hxb).trans x2
        have e0 := (Hb.out.cell (p := ⟨yb, _, none⟩) hyb).trans y0
        have e1 := (Hb.out.cell (p := ⟨yb, _, none⟩) hyb).trans y1
        have e2 := (Hb.out.cell (p := ⟨yb, _, none⟩) hyb).trans y2
        have hr := fun W => run_neq_cell xs[j].v xs[j].k xs[j].s ys[j].v ys[j].k ys[j].s W
        rw [show (⟨xs[j].v, xs[j].k, xs[j].s⟩ : Cell) = xs[j] from rfl, show (⟨ys[j].v, ys[j].k, ys[j].s⟩ : Cell) = ys[j] from rfl] at hr
        clear x0 x1 x2 y0 y1 y2
        have g1 : (j : Int) < (xs.length : Int) := by omega
        have g2 : (j : Int) < (ys.length : Int) := by omega
        cases hd : decide (xs[j] = ys[j])
        · rw [hd] at hr
          have hne : ¬ xs = ys := fun e => by subst e; simp at hd
          have Hne := Lib.hid hne
          clear hd hne
          generalize xs[j] = p at *
          generalize ys[j] = q at *
          go_wp2_with fail
          go_quiet (fail)
          go_wp2_with fail
          try rw [Exit.noGoto_ret]
          go_ret
          exact ⟨ret_bool (decide_eq_false Hne.out).symm, Below.drewN Hb.out _⟩
        · rw [hd] at hr
          have heq : xs[j] = ys[j] := of_decide_eq_true hd
          have Heq := Lib.hid heq
          clear hd heq
          generalize hp : xs[j] = p at *
          generalize hq : ys[j] = q at *
          have Hp := Lib.hid hp
          have Hq := Lib.hid hq
          clear hp hq
          go_wp2_with fail
          go_quiet (fail)
          go_wp2_with fail
          go_roundg (gk - 1)
          case measure => have := Hj.out; omega
          case rel =>
            refine ⟨j + 1, by have := Hj.out; omega, by go_num, fun i hi => ?_, Below.drewN Hb.out _⟩
            by_cases e : i = j
            · subst e
              rw [List.getElem?_eq_getElem hlt, List.getElem?_eq_getElem hlt2, Hp.out, Hq.out, Heq.out]
            · exact Hall.out i (by omega)
      · have heq : xs = ys := by
          apply List.ext_getElem?
          intro i
          by_cases hi : i < j
          · exact Hall.out i hi
          · rw [List.getElem?_eq_none (by have := Hj.out; omega), List.getElem?_eq_none (by have := Hj.out; have := Hlen.out; omega)]
        have Heq := Lib.hid heq
        clear heq
        go_wp2_with fail
        go_ret
        exact ⟨ret_bool (decide_eq_true Heq.out).symm, Hb.out⟩
  · have hn : ((xs.length : Int) != (ys.length : Int)) = true := by simp; omega
    have Hlen := Lib.hid hlen
    clear hlen
    go_enter Try.func79, Try.ntmps79
    go_wp2_with fail
    go_ret
    exact ⟨ret_bool (decide_eq_false (fun e => Hlen.out (by rw [e]))).symm, Below.refl _ _⟩
/-- What is wrong with a cell, or a bound. -/
def placeE (c : Cell) (most least : Int) : Int := if c.v < 0 ∨ most < c.v then 23 else if (c.k.size : Int) < least ∨ 32 < (c.k.size : Int) then 21 else if c.s < -2305843009213693952 ∨ 2305843009213693952 < c.s then 22 else 0
set_option maxRecDepth 100000 in
set_option maxHeartbeats 2000000 in
theorem place_any (cv : Int) (ck : ByteArray) (cs most least : Int) (w : World) : Calls Try.prog 80 #[.agg #[.int .i64 cv, .string ck, .int .i64 cs], .int .i64 most, .int .i64 least] w fun e w' => e = .returned (.int .i64 (placeE ⟨cv, ck, cs⟩ most least)) ∧ Below w.heap.size w w' := by
  have hb : Below w.heap.size w (w.alloc (.cells #[.int .i64 cv, .string ck, .int .i64 cs] 46)) := (Below.refl _ _).alloc (Nat.le_refl _) _
  have Hb := Lib.hid hb
  have fin : ∀ x, placeE ⟨cv, ck, cs⟩ most least = x → Hid (placeE ⟨cv, ck, cs⟩ most least = x) := fun x h => Lib.hid h
  clear hb
  by_cases a1 : cv < 0
  · have hx := fin 23 (by unfold placeE; rw [if_pos (.inl a1)])
    clear fin
    go_enter Try.func80, Try.ntmps80
    go_wp2_with fail
    go_ret
    rw [hx.out]
    exact ⟨rfl, Hb.out⟩
  · by_cases a2 : most < cv
    · have hx := fin 23 (by unfold placeE; rw [if_pos (.inr a2)])
      clear fin
      go_enter Try.func80, Try.ntmps80
      go_wp2_with fail
      go_ret
      rw [hx.out]
      exact ⟨rfl, Hb.out⟩
    · by_cases a3 : (ck.size : Int) < least
      · have hx := fin 21 (by unfold placeE; rw [if_neg (by simp; omega), if_pos (.inl a3)])
        clear fin
        go_enter Try.func80, Try.ntmps80
        go_wp2_with fail
        go_ret
        rw [hx.out]
        exact ⟨rfl, Hb.out⟩
      · by_cases a4 : 32 < (ck.size : Int)
        · have hx := fin 21 (by unfold placeE; rw [if_neg (by simp; omega), if_pos (.inr a4)])
          clear fin
          go_enter Try.func80, Try.ntmps80
          go_wp2_with fail
          go_ret
          rw [hx.out]
          exact ⟨rfl, Hb.out⟩
        · by_cases a5 : cs < -2305843009213693952
          · have hx := fin 22 (by unfold placeE; rw [if_neg (by simp; omega), if_neg (by simp; omega), if_pos (.inl a5)])
            clear fin
            go_enter Try.func80, Try.ntmps80
            go_wp2_with fail
            go_ret
            rw [hx.out]
            exact ⟨rfl, Hb.out⟩
          · by_cases a6 : 2305843009213693952 < cs
            · have hx := fin 22 (by unfold placeE; rw [if_neg (by simp; omega), if_neg (by simp; omega), if_pos (.inr a6)])
              clear fin
              go_enter Try.func80, Try.ntmps80
              go_wp2_with fail
              go_ret
              rw [hx.out]
              exact ⟨rfl, Hb.out⟩
            · have hx := fin 0 (by unfold placeE; rw [if_neg (by simp; omega), if_neg (by simp; omega), if_neg (by simp; omega)])
              clear fin
              go_enter Try.func80, Try.ntmps80
              go_wp2_with fail
              go_ret
              rw [hx.out]
              exact ⟨rfl, Hb.out⟩
theorem cellE_any (cv : Int) (ck : ByteArray) (cs : Int) (w : World) : Calls Try.prog 63 #[.agg #[.int .i64 cv, .string ck, .int .i64 cs]] w fun e w' => e = .returned (.int .i64 (placeE ⟨cv, ck, cs⟩ 3 1)) ∧ Below w.heap.size w w' := by
  have hb : Below w.heap.size w (w.alloc (.cells #[.int .i64 cv, .string ck, .int .i64 cs] 46)) := (Below.refl _ _).alloc (Nat.le_refl _) _
  have Hb := Lib.hid hb
  clear hb
  go_enter Try.func63, Try.ntmps63
  go_wp2_with fail
  refine (place_any cv ck cs 3 1 _).mono ?_
  rintro e w1 ⟨rfl, hb1⟩
  go_wp2_with fail
  go_ret
  exact ⟨rfl, Hb.out.trans (hb1.mono Hb.out.size)⟩
theorem boundE_any (cv : Int) (ck : ByteArray) (cs : Int) (w : World) : Calls Try.prog 64 #[.agg #[.int .i64 cv, .string ck, .int .i64 cs]] w fun e w' => e = .returned (.int .i64 (placeE ⟨cv, ck, cs⟩ 4 0)) ∧ Below w.heap.size w w' := by
  have hb : Below w.heap.size w (w.alloc (.cells #[.int .i64 cv, .string ck, .int .i64 cs] 46)) := (Below.refl _ _).alloc (Nat.le_refl _) _
  have Hb := Lib.hid hb
  clear hb
  go_enter Try.func64, Try.ntmps64
  go_wp2_with fail
  refine (place_any cv ck cs 4 0 _).mono ?_
  rintro e w1 ⟨rfl, hb1⟩
  go_wp2_with fail
  go_ret
  exact ⟨rfl, Hb.out.trans (hb1.mono Hb.out.size)⟩
end Go.Proofs.Ytaicecnfodhlcaa
/- SameRequest. -/
set_option linter.unusedVariables false
set_option linter.unusedSimpArgs false
namespace Go.Proofs.Ytaicecnfodhlcaa
open Go.RowKit Go.Deep

/-- A request. -/
structure Rq where
  k : Int
  i : Int
  ep : Int
  cells : List Cell
  f : Cell
  t : Cell
  lim : Int
abbrev Rq.at (q : Rq) (a : Option Addr) (cap : Nat) : Array Value := #[.int .i64 q.k, .int .i64 q.i, .int .i64 q.ep, .slice a q.cells.length cap, .int .i64 q.f.v, .string q.f.k, .int .i64 q.f.s, .int .i64 q.t.v, .string q.t.k, .int .i64 q.t.s, .int .i64 q.lim]
def sameRq (a b : Rq) : Bool := (a.k == b.k) && (a.i == b.i) && (a.ep == b.ep) && decide (a.cells = b.cells) && decide (a.f = b.f) && decide (a.t = b.t) && (a.lim == b.lim)
set_option maxRecDepth 100000 in
set_option maxHeartbeats 4000000 in
theorem same_any (a b : Rq) (pa pb : Option Addr) (ca cb : Nat) (w : World) (hx : Sl 3 cellL w pa a.cells) (hy : Sl 3 cellL w pb b.cells) (hl : a.cells.length ≤ 1000000000) :
    Calls Try.prog 62 #[.agg (a.at pa ca), .agg (b.at pb cb)] w fun e w' => e = .returned (.bool (sameRq a b)) ∧ Below w.heap.size w w' := by
  have hb0 : Below w.heap.size w ((w.alloc (.cells (a.at pa ca) 48)).alloc (.cells (b.at pb cb) 48)) := ((Below.refl _ _).alloc (Nat.le_refl _) _).alloc (by simp) _
  have hA : ((w.alloc (.cells (a.at pa ca) 48)).alloc (.cells (b.at pb cb) 48)).heap[w.heap.size]? = some (.cells (a.at pa ca) 48) := (blk_old (by simp)).trans (blk_at rfl)
  have hB : ((w.alloc (.cells (a.at pa ca) 48)).alloc (.cells (b.at pb cb) 48)).heap[w.heap.size + 1]? = some (.cells (b.at pb cb) 48) := blk_at (by simp)
  have heq := fun W (hW : Below w.heap.size w W) => equalCells_any pa pb ca cb a.cells b.cells W (hx.below hW) (hy.below hW) hl
  have hsame : ∀ x, sameRq a b = x → Hid (sameRq a b = x) := fun x h => Lib.hid h
  unfold sameRq at hsame
  have e1 := fun W => run_eql_cell a.f.v a.f.k a.f.s b.f.v b.f.k b.f.s W
  have e2 := fun W => run_eql_cell a.t.v a.t.k a.t.s b.t.v b.t.k b.t.s W
  rw [show (⟨a.f.v, a.f.k, a.f.s⟩ : Cell) = a.f from rfl, show (⟨b.f.v, b.f.k, b.f.s⟩ : Cell) = b.f from rfl] at e1
  rw [show (⟨a.t.v, a.t.k, a.t.s⟩ : Cell) = a.t from rfl, show (⟨b.t.v, b.t.k, b.t.s⟩ : Cell) = b.t from rfl] at e2
  have hpost : ∀ x, (((a.k == b.k) && (a.i == b.i) && (a.ep == b.ep) && decide (a.cells = b.cells) && decide (a.f = b.f) && decide (a.t = b.t) && (a.lim == b.lim)) = x) → sameRq a b = x := fun x h => h
  have Hpost := Lib.hid hpost
  have Hb0 := Lib.hid hb0
  have HA := Lib.hid hA
  have HB := Lib.hid hB
  have Heq := Lib.hid heq
  clear hb0 hA hB heq hsame hpost hx hy
  cases c1 : (a.k == b.k)
  · have H1 := Lib.hid c1
    go_enter Try.func62, Try.ntmps62
    go_wp2_with fail
    go_ret
    exact ⟨ret_bool (Hpost.out false (by simp [H1.out])).symm, Hb0.out⟩
  · skip
    have H1 := Lib.hid c1
    cases c2 : (a.i == b.i)
    · have H2 := Lib.hid c2
      go_enter Try.func62, Try.ntmps62
      go_wp2_with fail
      go_ret
      exact ⟨ret_bool (Hpost.out false (by simp [H1.out, H2.out])).symm, Hb0.out⟩
    · skip
      have H2 := Lib.hid c2
      cases c3 : (a.ep == b.ep)
      · have H3 := Lib.hid c3
        go_enter Try.func62, Try.ntmps62
        go_wp2_with fail
        go_ret
        exact ⟨ret_bool (Hpost.out false (by simp [H1.out, H2.out, H3.out])).symm, Hb0.out⟩
      · skip
        have H3 := Lib.hid c3
        go_enter Try.func62, Try.ntmps62
        go_wp2_with fail
        refine (Heq.out _ Hb0.out).mono ?_
        rintro e w1 ⟨rfl, hb1⟩
        have hb2 := Hb0.out.trans (hb1.mono Hb0.out.size)
        have hA1 := (hb1.block _ (by simp; omega)).trans HA.out
        have hB1 := (hb1.block _ (by simp)).trans HB.out
        have p4 := cell_blk hA1 4
        have q4 := cell_blk hB1 4
        have p5 := cell_blk hA1 5
        have q5 := cell_blk hB1 5
        have p6 := cell_blk hA1 6
        have q6 := cell_blk hB1 6
        have p7 := cell_blk hA1 7
        have q7 := cell_blk hB1 7
        have p8 := cell_blk hA1 8
        have q8 := cell_blk hB1 8
        have p9 := cell_blk hA1 9
        have q9 := cell_blk hB1 9
        have p10 := cell_blk hA1 10
        have q10 := cell_blk hB1 10
        simp at p4 q4 p5 q5 p6 q6 p7 q7 p8 q8 p9 q9 p10 q10
        have Hb2 := Lib.hid hb2
        clear hb1 hb2 hA1 hB1
        cases d1 : decide (a.cells = b.cells)
        · have K1 := Lib.hid d1
          clear d1
          go_wp2_with fail
          go_ret
          exact ⟨ret_bool (Hpost.out false (by simp [H1.out, H2.out, H3.out, K1.out])).symm, Hb2.out⟩
        · have K1 := Lib.hid d1
          clear d1
          cases d2 : decide (a.f = b.f)
          · rw [d2] at e1
            have K2 := Lib.hid d2
            clear d2
            go_wp2_with fail
            go_ret
            exact ⟨ret_bool (Hpost.out false (by simp [H1.out, H2.out, H3.out, K1.out, K2.out])).symm, Hb2.out⟩
          · rw [d2] at e1
            have K2 := Lib.hid d2
            clear d2
            cases d3 : decide (a.t = b.t)
            · rw [d3] at e2
              have K3 := Lib.hid d3
              clear d3
              go_wp2_with fail
              go_ret
              exact ⟨ret_bool (Hpost.out false (by simp [H1.out, H2.out, H3.out, K1.out, K2.out, K3.out])).symm, Hb2.out⟩
            · rw [d3] at e2
              have K3 := Lib.hid d3
              clear d3
              cases d4 : (a.lim == b.lim)
              · have K4 := Lib.hid d4
                go_wp2_with fail
                go_ret
                exact ⟨ret_bool (Hpost.out false (by simp [H1.out, H2.out, H3.out, K1.out, K2.out, K3.out, K4.out])).symm, Hb2.out⟩
              · have K4 := Lib.hid d4
                go_wp2_with fail
                go_ret
                exact ⟨ret_bool (Hpost.out true (by simp [H1.out, H2.out, H3.out, K1.out, K2.out, K3.out, K4.out])).symm, Hb2.out⟩
end Go.Proofs.Ytaicecnfodhlcaa
