/- SameRequest. -/
import Derived.Test.YtaicecnfodhlcaaMReq
set_option linter.unusedVariables false
set_option linter.unusedSimpArgs false
namespace Go.Proofs.Ytaicecnfodhlcaa
open Go.RowKit Go.Deep

/-- A request. -/
structure Rq where
  k : Int
  i : Int
  ep : Int
  cells : List Cell
  f : Cell
  t : Cell
  lim : Int
abbrev Rq.at (q : Rq) (a : Option Addr) (cap : Nat) : Array Value := #[.int .i64 q.k, .int .i64 q.i, .int .i64 q.ep, .slice a q.cells.length cap, .int .i64 q.f.v, .string q.f.k, .int .i64 q.f.s, .int .i64 q.t.v, .string q.t.k, .int .i64 q.t.s, .int .i64 q.lim]
def sameRq (a b : Rq) : Bool := (a.k == b.k) && (a.i == b.i) && (a.ep == b.ep) && decide (a.cells = b.cells) && decide (a.f = b.f) && decide (a.t = b.t) && (a.lim == b.lim)
set_option maxRecDepth 100000 in
set_option maxHeartbeats 4000000 in
theorem same_any (a b : Rq) (pa pb : Option Addr) (ca cb : Nat) (w : World) (hx : Sl 3 cellL w pa a.cells) (hy : Sl 3 cellL w pb b.cells) (hl : a.cells.length ≤ 1000000000) :
    Calls Try.prog 62 #[.agg (a.at pa ca), .agg (b.at pb cb)] w fun e w' => e = .returned (.bool (sameRq a b)) ∧ Below w.heap.size w w' := by
  have hb0 : Below w.heap.size w ((w.alloc (.cells (a.at pa ca) 48)).alloc (.cells (b.at pb cb) 48)) := ((Below.refl _ _).alloc (Nat.le_refl _) _).alloc (by simp) _
  have hA : ((w.alloc (.cells (a.at pa ca) 48)).alloc (.cells (b.at pb cb) 48)).heap[w.heap.size]? = some (.cells (a.at pa ca) 48) := (blk_old (by simp)).trans (blk_at rfl)
  have hB : ((w.alloc (.cells (a.at pa ca) 48)).alloc (.cells (b.at pb cb) 48)).heap[w.heap.size + 1]? = some (.cells (b.at pb cb) 48) := blk_at (by simp)
  have heq := fun W (hW : Below w.heap.size w W) => equalCells_any pa pb ca cb a.cells b.cells W (hx.below hW) (hy.below hW) hl
  have hsame : ∀ x, sameRq a b = x → Hid (sameRq a b = x) := fun x h => Lib.hid h
  unfold sameRq at hsame
  have e1 := fun W => run_eql_cell a.f.v a.f.k a.f.s b.f.v b.f.k b.f.s W
  have e2 := fun W => run_eql_cell a.t.v a.t.k a.t.s b.t.v b.t.k b.t.s W
  rw [show (⟨a.f.v, a.f.k, a.f.s⟩ : Cell) = a.f from rfl, show (⟨b.f.v, b.f.k, b.f.s⟩ : Cell) = b.f from rfl] at e1
  rw [show (⟨a.t.v, a.t.k, a.t.s⟩ : Cell) = a.t from rfl, show (⟨b.t.v, b.t.k, b.t.s⟩ : Cell) = b.t from rfl] at e2
  have hpost : ∀ x, (((a.k == b.k) && (a.i == b.i) && (a.ep == b.ep) && decide (a.cells = b.cells) && decide (a.f = b.f) && decide (a.t = b.t) && (a.lim == b.lim)) = x) → sameRq a b = x := fun x h => h
  have Hpost := Lib.hid hpost
  have Hb0 := Lib.hid hb0
  have HA := Lib.hid hA
  have HB := Lib.hid hB
  have Heq := Lib.hid heq
  clear hb0 hA hB heq hsame hpost hx hy
  cases c1 : (a.k == b.k)
  · have H1 := Lib.hid c1
    go_enter Try.func62, Try.ntmps62
    go_wp2_with fail
    go_ret
    exact ⟨ret_bool (Hpost.out false (by simp [H1.out])).symm, Hb0.out⟩
  · skip
    have H1 := Lib.hid c1
    cases c2 : (a.i == b.i)
    · have H2 := Lib.hid c2
      go_enter Try.func62, Try.ntmps62
      go_wp2_with fail
      go_ret
      exact ⟨ret_bool (Hpost.out false (by simp [H1.out, H2.out])).symm, Hb0.out⟩
    · skip
      have H2 := Lib.hid c2
      cases c3 : (a.ep == b.ep)
      · have H3 := Lib.hid c3
        go_enter Try.func62, Try.ntmps62
        go_wp2_with fail
        go_ret
        exact ⟨ret_bool (Hpost.out false (by simp [H1.out, H2.out, H3.out])).symm, Hb0.out⟩
      · skip
        have H3 := Lib.hid c3
        go_enter Try.func62, Try.ntmps62
        go_wp2_with fail
        refine (Heq.out _ Hb0.out).mono ?_
        rintro e w1 ⟨rfl, hb1⟩
        have hb2 := Hb0.out.trans (hb1.mono Hb0.out.size)
        have hA1 := (hb1.block _ (by simp; omega)).trans HA.out
        have hB1 := (hb1.block _ (by simp)).trans HB.out
        have p4 := cell_blk hA1 4
        have q4 := cell_blk hB1 4
        have p5 := cell_blk hA1 5
        have q5 := cell_blk hB1 5
        have p6 := cell_blk hA1 6
        have q6 := cell_blk hB1 6
        have p7 := cell_blk hA1 7
        have q7 := cell_blk hB1 7
        have p8 := cell_blk hA1 8
        have q8 := cell_blk hB1 8
        have p9 := cell_blk hA1 9
        have q9 := cell_blk hB1 9
        have p10 := cell_blk hA1 10
        have q10 := cell_blk hB1 10
        simp at p4 q4 p5 q5 p6 q6 p7 q7 p8 q8 p9 q9 p10 q10
        have Hb2 := Lib.hid hb2
        clear hb1 hb2 hA1 hB1
        cases d1 : decide (a.cells = b.cells)
        · have K1 := Lib.hid d1
          clear d1
          go_wp2_with fail
          go_ret
          exact ⟨ret_bool (Hpost.out false (by simp [H1.out, H2.out, H3.out, K1.out])).symm, Hb2.out⟩
        · have K1 := Lib.hid d1
          clear d1
          cases d2 : decide (a.f = b.f)
          · rw [d2] at e1
            have K2 := Lib.hid d2
            clear d2
            go_wp2_with fail
            go_ret
            exact ⟨ret_bool (Hpost.out false (by simp [H1.out, H2.out, H3.out, K1.out, K2.out])).symm, Hb2.out⟩
          · rw [d2] at e1
            have K2 := Lib.hid d2
            clear d2
            cases d3 : decide (a.t = b.t)
            · rw [d3] at e2
              have K3 := Lib.hid d3
              clear d3
              go_wp2_with fail
              go_ret
              exact ⟨ret_bool (Hpost.out false (by simp [H1.out, H2.out, H3.out, K1.out, K2.out, K3.out])).symm, Hb2.out⟩
            · rw [d3] at e2
              have K3 := Lib.hid d3
              clear d3
              cases d4 : (a.lim == b.lim)
              · have K4 := Lib.hid d4
                go_wp2_with fail
                go_ret
                exact ⟨ret_bool (Hpost.out false (by simp [H1.out, H2.out, H3.out, K1.out, K2.out, K3.out, K4.out])).symm, Hb2.out⟩
              · have K4 := Lib.hid d4
                go_wp2_with fail
                go_ret
                exact ⟨ret_bool (Hpost.out true (by simp [H1.out, H2.out, H3.out, K1.out, K2.out, K3.out, K4.out])).symm, Hb2.out⟩
end Go.Proofs.Ytaicecnfodhlcaa
