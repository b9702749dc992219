/- Ask: its closures, its last steps. -/
import Derived.Test.YtaicecnfodhlcaaMSame
import Derived.Test.YtaicecnfodhlcaaMPin
set_option linter.unusedVariables false
set_option linter.unusedSimpArgs false
namespace Go.Proofs.Ytaicecnfodhlcaa
open Go.RowKit Go.Deep

theorem chg11 {g : Nat} {w : World} (v0 v1 v2 v3 v4 v5 v6 v7 v8 v9 v10 : Value) : Chg [g] w (((((((((((w.setCell ⟨g, 0, none⟩ v0).setCell ⟨g, 1, none⟩ v1).setCell ⟨g, 2, none⟩ v2).setCell ⟨g, 3, none⟩ v3).setCell ⟨g, 4, none⟩ v4).setCell ⟨g, 5, none⟩ v5).setCell ⟨g, 6, none⟩ v6).setCell ⟨g, 7, none⟩ v7).setCell ⟨g, 8, none⟩ v8).setCell ⟨g, 9, none⟩ v9).setCell ⟨g, 10, none⟩ v10) :=
  (((((((((((Chg.refl _ w).trans (Chg.set _ (a := ⟨g, 0, none⟩) (by simp) _)).trans (Chg.set _ (a := ⟨g, 1, none⟩) (by simp) _)).trans (Chg.set _ (a := ⟨g, 2, none⟩) (by simp) _)).trans (Chg.set _ (a := ⟨g, 3, none⟩) (by simp) _)).trans (Chg.set _ (a := ⟨g, 4, none⟩) (by simp) _)).trans (Chg.set _ (a := ⟨g, 5, none⟩) (by simp) _)).trans (Chg.set _ (a := ⟨g, 6, none⟩) (by simp) _)).trans (Chg.set _ (a := ⟨g, 7, none⟩) (by simp) _)).trans (Chg.set _ (a := ⟨g, 8, none⟩) (by simp) _)).trans (Chg.set _ (a := ⟨g, 9, none⟩) (by simp) _)).trans (Chg.set _ (a := ⟨g, 10, none⟩) (by simp) _)
/-- What an inner answer said, behind stores into blocks of the caller's own. -/
theorem Says.on {w w1 w2 w3 : World} {B B' : MB} {S' : Mst} {rows : List Rw} {v : Value} {S0 : Mst} (h : IsModel w B S0) (hb : Below w.heap.size w w1) {l : List Nat} (hl : ∀ g ∈ l, w.heap.size ≤ g ∧ g < w1.heap.size) (ho : Own 53 7 rowL w1.heap.size w2 v rows) (hM : IsModel w2 B' S') (hT : Turn w1 w2 B B') (hv : ∀ g, v.ownBlock = some g → B'.lab g = .no) (hc : Chg l w2 w3) :
    Own 53 7 rowL w.heap.size w3 v rows ∧ IsModel w3 B' S' ∧ Turn w w3 B B' := by
  have hB : ∀ g, B.lab g ≠ .no → g < w.heap.size := h.lt
  refine ⟨(ho.mono hb.size).keep fun g hg hlt => hc.block g hlt (fun hm => ?_), hM.keep hc.size fun g hg => hc.block g (hM.lt g hg) (fun hm => ?_), ?_⟩
  · have := hl g hm
    have := (ho.ge hg).1
    omega
  · have := hl g hm
    rcases hT.lab g hg with h1 | h1
    · have := hB g h1; omega
    · omega
  · have h1 : Turn w w2 B B' := (Turn.of_below B hb).trans hT
    refine ⟨h1.mp, ⟨hc.os.trans h1.chg.os, hc.tape.trans h1.chg.tape, hc.output.trans h1.chg.output, Nat.le_trans h1.chg.size hc.size, fun g hg hn => ?_⟩, h1.lab⟩
    exact (hc.block g (by have := h1.chg.size; omega) (fun hm => by have := hl g hm; omega)).trans (h1.chg.block g hg hn)
theorem Says.wrap {w w1 w2 w3 : World} {B B' : MB} {S' : Mst} {r : Rsp} {er : Int} {v : Value} {S0 : Mst} {e : Ending} (h : IsModel w B S0) (hb : Below w.heap.size w w1) {l : List Nat} (hl : ∀ g ∈ l, w.heap.size ≤ g ∧ g < w1.heap.size) (ho : Own 53 7 rowL w1.heap.size w2 v r.rows) (hM : IsModel w2 B' S') (hT : Turn w1 w2 B B') (hv : ∀ g, v.ownBlock = some g → B'.lab g = .no) (hc : Chg l w2 w3)
    (he : e = .returned (.tuple #[.agg (r.at v), .int .i64 er])) : Says w B (S', er, r) e w3 := by
  have hfin := Says.on h hb hl ho hM hT hv hc
  exact ⟨v, B', he, hfin.1, hfin.2.1, hfin.2.2, hv⟩
/-- A block of the caller's own is as it was. -/
theorem Says.mine {w w1 w2 : World} {B B' : MB} {S : Mst} (h : IsModel w B S) (hT : Turn w1 w2 B B') {g : Nat} (hg : w.heap.size ≤ g) (hg1 : g < w1.heap.size) : w2.heap[g]? = w1.heap[g]? :=
  hT.chg.block g hg1 (fun hn => hn (by
    refine Decidable.byContradiction fun hn => ?_
    have := h.lt g hn
    omega))
set_option maxRecDepth 100000 in
set_option maxHeartbeats 2000000 in
theorem ask5_any {w : World} {B : MB} {S : Mst} (h : IsModel w B S) (g4 g5 : Nat) (s : Int) (h4 : w.cell? ⟨g4, 0, none⟩ = some (.pointer (some ⟨B.mp, 0, none⟩))) (h5 : w.cell? ⟨g5, 0, none⟩ = some (.int .i64 s)) (l4 : g4 < w.heap.size) (l5 : g5 < w.heap.size) (hs1 : 1 ≤ s) (hs2 : s ≤ 64) :
    Calls Try.prog 38 #[.pointer (some ⟨g4, 0, none⟩), .pointer (some ⟨g5, 0, none⟩)] w (Says w B (S.pin s)) := by
  have hb1 : Below w.heap.size w (w.alloc respO) := (Below.refl _ _).alloc (Nat.le_refl _) _
  have hp := pin_any (h.below hb1) s hs1 hs2
  have hf1 : (w.alloc respO).heap[w.heap.size]? = some respO := blk_at rfl
  have hz1 : (w.alloc respO).heap.size = w.heap.size + 1 := by simp
  have a4 : (w.alloc respO).cell? ⟨g4, 0, none⟩ = _ := (hb1.cell (p := ⟨g4, 0, none⟩) l4).trans h4
  have a5 : (w.alloc respO).cell? ⟨g5, 0, none⟩ = _ := (hb1.cell (p := ⟨g5, 0, none⟩) l5).trans h5
  generalize S.pin s = x at *
  obtain ⟨S', er, k, i, re, ep, rows, t, l, o, f, c, n⟩ := x
  have Hh := Lib.hid h
  have Hb1 := Lib.hid hb1
  have Hf1 := Lib.hid hf1
  have Hp := Lib.hid hp
  clear h hb1 hf1 hp h4 h5
  go_enter Try.func38, Try.ntmps38
  go_wp2_with fail
  generalize hW1 : World.alloc w _ = W1
  have e1 : w.alloc respO = W1 := hW1
  rw [e1] at Hb1 Hf1 Hp hz1
  clear a4 a5 hW1 e1
  refine Hp.out.mono ?_
  rintro e w2 ⟨v, B', rfl, ho, hM, hT, hv⟩
  obtain ⟨oa, oc, rfl, _⟩ := ho.sl fun _ => rfl
  have hf2 := (Says.mine Hh.out hT (Nat.le_refl _) (by omega)).trans Hf1.out
  have rf := frozen_blk hf2
  have z0 := cell_blk hf2 0
  have z1 := cell_blk hf2 1
  have z2 := cell_blk hf2 2
  have z3 := cell_blk hf2 3
  have z4 := cell_blk hf2 4
  have z5 := cell_blk hf2 5
  have z6 := cell_blk hf2 6
  have z7 := cell_blk hf2 7
  have z8 := cell_blk hf2 8
  have z9 := cell_blk hf2 9
  have z10 := cell_blk hf2 10
  simp at z0 z1 z2 z3 z4 z5 z6 z7 z8 z9 z10
  have Hf2 := Lib.hid hf2
  have H := Lib.hid (And.intro ho (And.intro hM (And.intro hT hv)))
  clear hf2 ho hM hT hv
  dsimp only [Rsp.at, respL]
  go_wp2_with fail
  refine bodyPost_resp (g := w.heap.size) (k := k) (i := i) (er := re) (ep := ep) (rows := .slice oa rows.length oc) (t := t) (l := l) (o := o) (f := f) (c := c) (n := n) rfl rfl ?_ rfl ?_
  · exact set11 Hf2.out _ _ _ _ _ _ _ _ _ _ _
  · exact Says.wrap Hh.out Hb1.out (l := [w.heap.size]) (fun g hg => by rw [List.mem_singleton.1 hg]; omega) H.out.1 H.out.2.1 H.out.2.2.1 H.out.2.2.2 (chg11 _ _ _ _ _ _ _ _ _ _ _) rfl
end Go.Proofs.Ytaicecnfodhlcaa
