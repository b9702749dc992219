/- Ask: its closures, its last steps. -/
import Derived.Test.YtaicecnfodhlcaaJ11
import Derived.Test.YtaicecnfodhlcaaJ10
import Derived.Test.YtaicecnfodhlcaaJ13
import Derived.Test.YtaicecnfodhlcaaJ09
import Derived.Test.YtaicecnfodhlcaaJ01
import Derived.Test.YtaicecnfodhlcaaRows
import Derived.WalkKit
import Derived.ProofKit
import Derived.OpenShut
import Derived.JoinedCond
import Derived.Below
import Derived.Carry
import Derived.ChangeOld
import Derived.ChangeSame
import Derived.Deep.Slices
import Derived.Deep.Fields
set_option linter.unusedVariables false
set_option linter.unusedSimpArgs false
namespace Go.Proofs.Ytaicecnfodhlcaa
open Go.RowKit Go.Deep

theorem chg11 {g : Nat} {w : World} (v0 v1 v2 v3 v4 v5 v6 v7 v8 v9 v10 : Value) : Chg [g] w (((((((((((w.setCell ⟨g, 0, none⟩ v0).setCell ⟨g, 1, none⟩ v1).setCell ⟨g, 2, none⟩ v2).setCell ⟨g, 3, none⟩ v3).setCell ⟨g, 4, none⟩ v4).setCell ⟨g, 5, none⟩ v5).setCell ⟨g, 6, none⟩ v6).setCell ⟨g, 7, none⟩ v7).setCell ⟨g, 8, none⟩ v8).setCell ⟨g, 9, none⟩ v9).setCell ⟨g, 10, none⟩ v10) :=
  (((((((((((Chg.refl _ w).trans (Chg.set _ (a := ⟨g, 0, none⟩) (by simp) _)).trans (Chg.set _ (a := ⟨g, 1, none⟩) (by simp) _)).trans (Chg.set _ (a := ⟨g, 2, none⟩) (by simp) _)).trans (Chg.set _ (a := ⟨g, 3, none⟩) (by simp) _)).trans (Chg.set _ (a := ⟨g, 4, none⟩) (by simp) _)).trans (Chg.set _ (a := ⟨g, 5, none⟩) (by simp) _)).trans (Chg.set _ (a := ⟨g, 6, none⟩) (by simp) _)).trans (Chg.set _ (a := ⟨g, 7, none⟩) (by simp) _)).trans (Chg.set _ (a := ⟨g, 8, none⟩) (by simp) _)).trans (Chg.set _ (a := ⟨g, 9, none⟩) (by simp) _)).trans (Chg.set _ (a := ⟨g, 10, none⟩) (by simp) _)
/-- What an inner answer said, behind stores into blocks of the caller's own. -/
theorem Says.on {w w1 w2 w3 : World} {B B' : MB} {S' : Mst} {rows : List Rw} {v : Value} {S0 : Mst} (h : IsModel w B S0) (hb : Below w.heap.size w w1) {l : List Nat} (hl : ∀ g ∈ l, w.heap.size ≤ g ∧ g < w1.heap.size) (ho : Own 53 7 rowL w1.heap.size w2 v rows) (hM : IsModel w2 B' S') (hT : Turn w1 w2 B B') (hv : ∀ g, v.ownBlock = some g → B'.lab g = .no) (hc : Chg l w2 w3) :
    Own 53 7 rowL w.heap.size w3 v rows ∧ IsModel w3 B' S' ∧ Turn w w3 B B' := by
  have hB : ∀ g, B.lab g ≠ .no → g < w.heap.size := h.lt
  refine ⟨(ho.mono hb.size).keep fun g hg hlt => hc.block g hlt (fun hm => ?_), hM.keep hc.size fun g hg => hc.block g (hM.lt g hg) (fun hm => ?_), ?_⟩
  · have := hl g hm
    have := (ho.ge hg).1
    omega
  · have := hl g hm
    rcases hT.lab g hg with h1 | h1
    · have := hB g h1; omega
    · omega
  · have h1 : Turn w w2 B B' := (Turn.of_below B hb).trans hT
    refine ⟨h1.mp, ⟨hc.os.trans h1.chg.os, hc.tape.trans h1.chg.tape, hc.output.trans h1.chg.output, Nat.le_trans h1.chg.size hc.size, fun g hg hn => ?_⟩, h1.lab⟩
    exact (hc.block g (by have := h1.chg.size; omega) (fun hm => by have := hl g hm; omega)).trans (h1.chg.block g hg hn)
theorem Says.wrap {w w1 w2 w3 : World} {B B' : MB} {S' : Mst} {r : Rsp} {er : Int} {v : Value} {S0 : Mst} {e : Ending} (h : IsModel w B S0) (hb : Below w.heap.size w w1) {l : List Nat} (hl : ∀ g ∈ l, w.heap.size ≤ g ∧ g < w1.heap.size) (ho : Own 53 7 rowL w1.heap.size w2 v r.rows) (hM : IsModel w2 B' S') (hT : Turn w1 w2 B B') (hv : ∀ g, v.ownBlock = some g → B'.lab g = .no) (hc : Chg l w2 w3)
    (he : e = .returned (.tuple #[.agg (r.at v), .int .i64 er])) : Says w B (S', er, r) e w3 := by
  have hfin := Says.on h hb hl ho hM hT hv hc
  exact ⟨v, B', he, hfin.1, hfin.2.1, hfin.2.2, hv⟩
/-- A block of the caller's own is as it was. -/
theorem Says.mine {w w1 w2 : World} {B B' : MB} {S : Mst} (h : IsModel w B S) (hT : Turn w1 w2 B B') {g : Nat} (hg : w.heap.size ≤ g) (hg1 : g < w1.heap.size) : w2.heap[g]? = w1.heap[g]? :=
  hT.chg.block g hg1 (fun hn => hn (by
    refine Decidable.byContradiction fun hn => ?_
    have := h.lt g hn
    omega))
set_option maxRecDepth 100000 in
set_option maxHeartbeats 2000000 in
theorem ask5_any {w : World} {B : MB} {S : Mst} (h : IsModel w B S) (g4 g5 : Nat) (s : Int) (h4 : w.cell? ⟨g4, 0, none⟩ = some (.pointer (some ⟨B.mp, 0, none⟩))) (h5 : w.cell? ⟨g5, 0, none⟩ = some (.int .i64 s)) (l4 : g4 < w.heap.size) (l5 : g5 < w.heap.size) (hs1 : 1 ≤ s) (hs2 : s ≤ 64) :
    Calls Try.prog 38 #[.pointer (some ⟨g4, 0, none⟩), .pointer (some ⟨g5, 0, none⟩)] w (Says w B (S.pin s)) := by
  have hb1 : Below w.heap.size w (w.alloc respO) := (Below.refl _ _).alloc (Nat.le_refl _) _
  have hp := pin_any (h.below hb1) s hs1 hs2
  have hf1 : (w.alloc respO).heap[w.heap.size]? = some respO := blk_at rfl
  have hz1 : (w.alloc respO).heap.size = w.heap.size + 1 := by simp
  have a4 : (w.alloc respO).cell? ⟨g4, 0, none⟩ = _ := (hb1.cell (p := ⟨g4, 0, none⟩) l4).trans h4
  have a5 : (w.alloc respO).cell? ⟨g5, 0, none⟩ = _ := (hb1.cell (p := ⟨g5, 0, none⟩) l5).trans h5
  generalize S.pin s = x at *
  obtain ⟨S', er, k, i, re, ep, rows, t, l, o, f, c, n⟩ := x
  have Hh := Lib.hid h
  have Hb1 := Lib.hid hb1
  have Hf1 := Lib.hid hf1
  have Hp := Lib.hid hp
  clear h hb1 hf1 hp h4 h5
  go_enter Try.func38, Try.ntmps38
  go_wp2_with fail
  generalize hW1 : World.alloc w _ = W1
  have e1 : w.alloc respO = W1 := hW1
  rw [e1] at Hb1 Hf1 Hp hz1
  clear a4 a5 hW1 e1
  refine Hp.out.mono ?_
  rintro e w2 ⟨v, B', rfl, ho, hM, hT, hv⟩
  obtain ⟨oa, oc, rfl, _⟩ := ho.sl fun _ => rfl
  have hf2 := (Says.mine Hh.out hT (Nat.le_refl _) (by omega)).trans Hf1.out
  have rf := frozen_blk hf2
  have z0 := cell_blk hf2 0
  have z1 := cell_blk hf2 1
  have z2 := cell_blk hf2 2
  have z3 := cell_blk hf2 3
  have z4 := cell_blk hf2 4
  have z5 := cell_blk hf2 5
  have z6 := cell_blk hf2 6
  have z7 := cell_blk hf2 7
  have z8 := cell_blk hf2 8
  have z9 := cell_blk hf2 9
  have z10 := cell_blk hf2 10
  simp at z0 z1 z2 z3 z4 z5 z6 z7 z8 z9 z10
  have Hf2 := Lib.hid hf2
  have H := Lib.hid (And.intro ho (And.intro hM (And.intro hT hv)))
  clear hf2 ho hM hT hv
  dsimp only [Rsp.at, respL]
  go_wp2_with fail
  refine bodyPost_resp (g := w.heap.size) (k := k) (i := i) (er := re) (ep := ep) (rows := .slice oa rows.length oc) (t := t) (l := l) (o := o) (f := f) (c := c) (n := n) rfl rfl ?_ rfl ?_
  · exact set11 Hf2.out _ _ _ _ _ _ _ _ _ _ _
  · exact Says.wrap Hh.out Hb1.out (l := [w.heap.size]) (fun g hg => by rw [List.mem_singleton.1 hg]; omega) H.out.1 H.out.2.1 H.out.2.2.1 H.out.2.2.2 (chg11 _ _ _ _ _ _ _ _ _ _ _) rfl
end Go.Proofs.Ytaicecnfodhlcaa
/- Ask. -/
set_option linter.unusedVariables false
set_option linter.unusedSimpArgs false
namespace Go.Proofs.Ytaicecnfodhlcaa
open Go.RowKit Go.Deep

/-- A request refused: what is told. -/
abbrev Rsp.bad (i er : Int) : Rsp := ⟨5, i, er, 0, [], 0, 0, 0, 0, 0, 0⟩
set_option maxRecDepth 100000 in
set_option maxHeartbeats 2000000 in
theorem ask1_any (g6 : Nat) (i er : Int) (w : World) (h6 : w.cell? ⟨g6, 1, none⟩ = some (.int .i64 i)) (l6 : g6 < w.heap.size) :
    Calls Try.prog 33 #[.int .i64 er, .pointer (some ⟨g6, 0, none⟩)] w fun e w' => e = .returned (.tuple #[respE 5 i er 0, .int .i64 0]) ∧ Below w.heap.size w w' := by
  have hb1 : Below w.heap.size w (w.alloc (.cells (respL 5 i er 0 (.slice none 0 0) 0 0 0 0 0 0) 41)) := (Below.refl _ _).alloc (Nat.le_refl _) _
  have Hb1 := Lib.hid hb1
  clear hb1
  go_enter Try.func33, Try.ntmps33
  go_wp2_with fail
  refine bodyPost_resp (g := w.heap.size) (k := 5) (i := i) (er := er) (ep := 0) (rows := .slice none 0 0) (t := 0) (l := 0) (o := 0) (f := 0) (c := 0) (n := 0) rfl rfl (blk_at rfl) rfl ⟨rfl, Hb1.out⟩
theorem chg_up {l : List Nat} {a b : World} (h : Chg l a b) (o : Obj) : Chg l a (b.alloc o) := h.trans ((Chg.of_below ((Below.refl _ _).alloc (Nat.le_refl _) _)).mono (by simp))
/-- What Ask makes of an inner answer. -/
def answered (i : Int) (x : Mst × Int × Rsp) : Mst × Int × Rsp := if x.2.1 = 0 then (x.1, 0, { x.2.2 with i := i }) else (x.1, 0, Rsp.bad i x.2.1)
theorem answered_ok {i : Int} {S : Mst} {r : Rsp} : answered i (S, 0, r) = (S, 0, { r with i := i }) := by unfold answered; rw [if_pos rfl]
theorem answered_bad {i er : Int} {S : Mst} {r : Rsp} (h : er ≠ 0) : answered i (S, er, r) = (S, 0, Rsp.bad i er) := by unfold answered; rw [if_neg h]
/-- The map of the seven closures. -/
theorem fmap7 (w : World) (F1 F2 F3 F4 F5 F6 F7 : Value) :
    ∃ w1 w2 w3 w4 w5 w6 w7, (Instr.mapUpdate 103 (.map (some w.heap.size)) (.int .i64 1) F1).run Try.prog (w.alloc (.map #[] 0)) = .ok () w1 ∧ (Instr.mapUpdate 103 (.map (some w.heap.size)) (.int .i64 2) F2).run Try.prog w1 = .ok () w2 ∧
      (Instr.mapUpdate 103 (.map (some w.heap.size)) (.int .i64 3) F3).run Try.prog w2 = .ok () w3 ∧ (Instr.mapUpdate 103 (.map (some w.heap.size)) (.int .i64 4) F4).run Try.prog w3 = .ok () w4 ∧
      (Instr.mapUpdate 103 (.map (some w.heap.size)) (.int .i64 5) F5).run Try.prog w4 = .ok () w5 ∧ (Instr.mapUpdate 103 (.map (some w.heap.size)) (.int .i64 6) F6).run Try.prog w5 = .ok () w6 ∧
      (Instr.mapUpdate 103 (.map (some w.heap.size)) (.int .i64 7) F7).run Try.prog w6 = .ok () w7 ∧ Below w.heap.size w w7 ∧ w.heap.size < w7.heap.size ∧
      ∀ k F, (k, F) ∈ [((1 : Int), F1), (2, F2), (3, F3), (4, F4), (5, F5), (6, F6), (7, F7)] → (Instr.lookup 103 (.map (some w.heap.size)) (.int .i64 k) false).run Try.prog w7 = .ok F w7 := by
  have h0 : MapIs intV (w.alloc (.map #[] 0)) w.heap.size [] := MapIs.new w
  obtain ⟨w1, r1, m1, c1, z1⟩ := MapIs.update (P := Try.prog) keyInt Try.underlying103 h0 1 F1
  obtain ⟨w2, r2, m2, c2, z2⟩ := MapIs.update (P := Try.prog) keyInt Try.underlying103 m1 2 F2
  obtain ⟨w3, r3, m3, c3, z3⟩ := MapIs.update (P := Try.prog) keyInt Try.underlying103 m2 3 F3
  obtain ⟨w4, r4, m4, c4, z4⟩ := MapIs.update (P := Try.prog) keyInt Try.underlying103 m3 4 F4
  obtain ⟨w5, r5, m5, c5, z5⟩ := MapIs.update (P := Try.prog) keyInt Try.underlying103 m4 5 F5
  obtain ⟨w6, r6, m6, c6, z6⟩ := MapIs.update (P := Try.prog) keyInt Try.underlying103 m5 6 F6
  obtain ⟨w7, r7, m7, c7, z7⟩ := MapIs.update (P := Try.prog) keyInt Try.underlying103 m6 7 F7
  have hz : (w.alloc (.map #[] 0)).heap.size = w.heap.size + 1 := by simp
  have hb0 : Below w.heap.size w (w.alloc (.map #[] 0)) := (Below.refl _ _).alloc (Nat.le_refl _) _
  have hc := ((((((Chg.of_grown c1).trans (Chg.of_grown c2)).trans (Chg.of_grown c3)).trans (Chg.of_grown c4)).trans (Chg.of_grown c5)).trans (Chg.of_grown c6)).trans (Chg.of_grown c7)
  refine ⟨w1, w2, w3, w4, w5, w6, w7, r1, r2, r3, r4, r5, r6, r7, Below.chain hb0 hc (by omega) (by simp), by omega, ?_⟩
  intro k F hk
  have hl := MapIs.lookup (P := Try.prog) keyInt Try.underlying103 m7 k false (z := .nilFunc) (by kernel_rfl)
  change (Instr.lookup _ _ (.int .i64 k) false).run _ _ = _ at hl
  have hm : (k, F) ∈ mPut (mPut (mPut (mPut (mPut (mPut (mPut [] 1 F1) 2 F2) 3 F3) 4 F4) 5 F5) 6 F6) 7 F7 := by
    have : mPut (mPut (mPut (mPut (mPut (mPut (mPut [] 1 F1) 2 F2) 3 F3) 4 F4) 5 F5) 6 F6) 7 F7 = [((1 : Int), F1), (2, F2), (3, F3), (4, F4), (5, F5), (6, F6), (7, F7)] := by simp [mPut]
    rw [this]
    exact hk
  rw [hl, mGet_some m7.nd hm]
  rfl
set_option maxRecDepth 100000 in
set_option maxHeartbeats 8000000 in
theorem ask_pin {w : World} {B : MB} {S : Mst} (h : IsModel w B S) (s i : Int) (hs1 : 1 ≤ s) (hs2 : s ≤ 64)
    (hchk : ∀ W, Below w.heap.size w W → Calls Try.prog 32 #[.agg #[.int .i64 4, .int .i64 i, .int .i64 0, .slice none 0 0, .int .i64 0, .string ByteArray.empty, .int .i64 0, .int .i64 0, .string ByteArray.empty, .int .i64 0, .int .i64 0]] W fun e w' => e = .returned (.int .i64 0) ∧ Below W.heap.size W w') :
    Calls Try.prog 12 #[.pointer (some ⟨B.mp, 0, none⟩), .int .i64 s, .agg #[.int .i64 4, .int .i64 i, .int .i64 0, .slice none 0 0, .int .i64 0, .string ByteArray.empty, .int .i64 0, .int .i64 0, .string ByteArray.empty, .int .i64 0, .int .i64 0], .int .i64 0] w
      (Says w B (answered i (S.pin s))) := by
  have d1 : decide (s < 1) = false := by simp; omega
  have d2 : decide (64 < s) = false := by simp; omega
  have Hh := Lib.hid h
  have Hchk := Lib.hid hchk
  have Hs := Lib.hid (And.intro hs1 hs2)
  clear h hchk hs1 hs2
  go_enter Try.func12, Try.ntmps12
  go_wp2_with fail
  generalize hW4 : World.alloc _ respO = W4
  have hb4 : Below w.heap.size w W4 := by
    rw [← hW4]
    exact ((((Below.refl _ _).alloc (Nat.le_refl _) _).alloc (by simp) _).alloc (by simp; omega) _).alloc (by simp; omega) _
  have hz4 : W4.heap.size = w.heap.size + 4 := by rw [← hW4]; simp
  have b0 : W4.heap[w.heap.size]? = some (.cells #[.pointer (some ⟨B.mp, 0, none⟩)] 28 (0, 0)) := by
    rw [← hW4, blk_old (by simp; omega), blk_old (by simp; omega), blk_old (by simp)]
    exact blk_at rfl
  have b1 : W4.heap[w.heap.size + 1]? = some (.cells #[.int .i64 s] 3 (0, 0)) := by
    rw [← hW4, blk_old (by simp), blk_old (by simp)]
    exact blk_at (by simp)
  have b2 : W4.heap[w.heap.size + 1 + 1]? = some (.cells #[.int .i64 4, .int .i64 i, .int .i64 0, .slice none 0 0, .int .i64 0, .string ByteArray.empty, .int .i64 0, .int .i64 0, .string ByteArray.empty, .int .i64 0, .int .i64 0] 48 (0, 0)) := by
    rw [← hW4, blk_old (by simp)]
    exact blk_at (by simp)
  have b3 : W4.heap[w.heap.size + 1 + 1 + 1]? = some respO := by
    rw [← hW4]
    exact blk_at (by simp)
  clear hW4
  refine (Hchk.out _ hb4).mono ?_
  rintro e w1 ⟨rfl, hb1⟩
  have hbw1 := hb4.trans (hb1.mono (by omega))
  have e0 := (hb1.block _ (by omega)).trans b0
  have e1 := (hb1.block _ (by omega)).trans b1
  have e2 := (hb1.block _ (by omega)).trans b2
  have e3 := (hb1.block _ (by omega)).trans b3
  have hz1 := hb1.size
  obtain ⟨v1, v2, v3, v4, v5, v6, v7, r1, r2, r3, r4, r5, r6, r7, hbv, hzv, hlk⟩ := fmap7 w1 (.func (.func 34) #[] #[.pointer (some ⟨w.heap.size, 0, none⟩), .pointer (some ⟨w.heap.size + 1, 0, none⟩), .pointer (some ⟨w.heap.size + 1 + 1, 0, none⟩)])
    (.func (.func 36) #[] #[.pointer (some ⟨w.heap.size, 0, none⟩), .pointer (some ⟨w.heap.size + 1, 0, none⟩), .pointer (some ⟨w.heap.size + 1 + 1, 0, none⟩)])
    (.func (.func 37) #[] #[.pointer (some ⟨w.heap.size, 0, none⟩), .pointer (some ⟨w.heap.size + 1, 0, none⟩), .pointer (some ⟨w.heap.size + 1 + 1, 0, none⟩)])
    (.func (.func 38) #[] #[.pointer (some ⟨w.heap.size, 0, none⟩), .pointer (some ⟨w.heap.size + 1, 0, none⟩)])
    (.func (.func 40) #[] #[.pointer (some ⟨w.heap.size, 0, none⟩), .pointer (some ⟨w.heap.size + 1, 0, none⟩), .pointer (some ⟨w.heap.size + 1 + 1, 0, none⟩)])
    (.func (.func 42) #[] #[.pointer (some ⟨w.heap.size, 0, none⟩), .pointer (some ⟨w.heap.size + 1, 0, none⟩), .pointer (some ⟨w.heap.size + 1 + 1, 0, none⟩)])
    (.func (.func 44) #[] #[.pointer (some ⟨w.heap.size, 0, none⟩)])
  have hmm : (Instr.makeMap 103 none).run Try.prog w1 = .ok (.map (some w1.heap.size)) (w1.alloc (.map #[] 0)) := rfl
  have hl4 := hlk 4 _ (.tail _ (.tail _ (.tail _ (.head _))))
  have hbv7 := hbw1.trans (hbv.mono hbw1.size)
  have k0 := (hbv.block _ (by omega)).trans e0
  have k1 := (hbv.block _ (by omega)).trans e1
  have k2 := (hbv.block _ (by omega)).trans e2
  have k3 := (hbv.block _ (by omega)).trans e3
  have a0 := cell_blk k0 0
  have a1 := cell_blk k1 0
  have a2 := cell_blk k2 0
  simp at a0 a1 a2
  have Hk := Lib.hid (And.intro k0 (And.intro k1 (And.intro k2 k3)))
  have Hbv := Lib.hid hbv7
  clear hlk hbv hbv7 hb4 b0 b1 b2 b3 e0 e1 e2 e3 hbw1 hb1 k0 k1 k2 k3
  go_wp2_with fail
  have hask := ask5_any (Hh.out.below Hbv.out) w.heap.size (w.heap.size + 1) s a0 a1 (by omega) (by omega) Hs.out.1 Hs.out.2
  generalize S.pin s = x at *
  obtain ⟨S', er, k, ii, re, ep, rows, t, l, o, f, c, n⟩ := x
  refine hask.mono ?_
  rintro e w8 ⟨v, B', rfl, ho, hM, hT, hv⟩
  obtain ⟨oa, oc, rfl, _⟩ := ho.sl fun _ => rfl
  have hz8 := hT.chg.size
  have j2 := (Says.mine Hh.out hT (g := w.heap.size + 1 + 1) (by omega) (by omega)).trans Hk.out.2.2.1
  have j3 := (Says.mine Hh.out hT (g := w.heap.size + 1 + 1 + 1) (by omega) (by omega)).trans Hk.out.2.2.2
  have rf := frozen_blk j3
  have z0 := cell_blk j3 0
  have z1 := cell_blk j3 1
  have z2 := cell_blk j3 2
  have z3 := cell_blk j3 3
  have z4 := cell_blk j3 4
  have z5 := cell_blk j3 5
  have z6 := cell_blk j3 6
  have z7 := cell_blk j3 7
  have z8 := cell_blk j3 8
  have z9 := cell_blk j3 9
  have z10 := cell_blk j3 10
  have y1 := cell_blk j2 1
  simp at z0 z1 z2 z3 z4 z5 z6 z7 z8 z9 z10 y1
  have Hj3 := Lib.hid j3
  have H := Lib.hid (And.intro ho (And.intro hM (And.intro hT hv)))
  have l8 : w.heap.size + 1 + 1 < w8.heap.size := by omega
  have l9 : w.heap.size + 1 + 1 + 1 < w8.heap.size := by omega
  clear hask a0 a1 a2 r1 r2 r3 r4 r5 r6 r7 hmm hl4 j2 j3 ho hM hT hv
  dsimp only [Rsp.at, respL]
  by_cases her : er = 0
  · subst her
    go_wp2_with fail
    refine bodyPost_resp (g := w.heap.size + 1 + 1 + 1) (k := k) (i := i) (er := re) (ep := ep) (rows := .slice oa rows.length oc) (t := t) (l := l) (o := o) (f := f) (c := c) (n := n) rfl rfl ?_ rfl ?_
    · rw [blk_old (by simp; omega)]
      with_reducible exact set11 Hj3.out _ _ _ _ _ _ _ _ _ _ _
    · rw [answered_ok]
      refine Says.wrap Hh.out Hbv.out (l := [w.heap.size + 1 + 1 + 1]) (fun g hg => by rw [List.mem_singleton.1 hg]; omega) H.out.1 H.out.2.1 H.out.2.2.1 H.out.2.2.2 ?_ rfl
      exact chg_up (chg11 _ _ _ _ _ _ _ _ _ _ _) _
  · have hb : (er != 0) = true := by simp [her]
    have Her := Lib.hid her
    clear her
    have h6 : ∀ ob : Obj, (w8.alloc ob).cell? ⟨w.heap.size + 1 + 1, 1, none⟩ = some (.int .i64 i) := fun ob => (((Below.refl w8.heap.size w8).alloc (Nat.le_refl _) ob).cell (p := ⟨w.heap.size + 1 + 1, 1, none⟩) l8).trans y1
    have H6 := Lib.hid h6
    clear h6
    go_wp2_with fail
    refine (ask1_any (w.heap.size + 1 + 1) i er _ (H6.out _) (by simp; omega)).mono ?_
    rintro e w9 ⟨rfl, hb9⟩
    have j9 := (hb9.block _ (by simp; omega)).trans ((blk_old l9).trans Hj3.out)
    have rf9 := frozen_blk j9
    clear z0 z1 z2 z3 z4 z5 z6 z7 z8 z9 z10 y1 rf
    have z0 := cell_blk j9 0
    have z1 := cell_blk j9 1
    have z2 := cell_blk j9 2
    have z3 := cell_blk j9 3
    have z4 := cell_blk j9 4
    have z5 := cell_blk j9 5
    have z6 := cell_blk j9 6
    have z7 := cell_blk j9 7
    have z8 := cell_blk j9 8
    have z9 := cell_blk j9 9
    have z10 := cell_blk j9 10
    simp at z0 z1 z2 z3 z4 z5 z6 z7 z8 z9 z10
    have Hj9 := Lib.hid j9
    have Hb9 := Lib.hid hb9
    clear j9 hb9
    go_wp2_with fail
    refine bodyPost_resp (g := w.heap.size + 1 + 1 + 1) (k := 5) (i := i) (er := er) (ep := 0) (rows := .slice none 0 0) (t := 0) (l := 0) (o := 0) (f := 0) (c := 0) (n := 0) rfl rfl ?_ rfl ?_
    · with_reducible exact set11 Hj9.out _ _ _ _ _ _ _ _ _ _ _
    · rw [answered_bad Her.out]
      refine Says.wrap (r := Rsp.bad i er) (v := .slice none 0 0) Hh.out Hbv.out (l := [w.heap.size + 1 + 1 + 1]) (fun g hg => by rw [List.mem_singleton.1 hg]; omega) (Own.nil _ _ _ _ _) H.out.2.1 H.out.2.2.1 (fun g hg => by cases hg) ?_ rfl
      refine Chg.trans (b := w9) (Chg.trans (b := w8.alloc (.cells #[.int .i64 k, .int .i64 ii, .int .i64 re, .int .i64 ep, .slice oa rows.length oc, .int .i64 t, .int .i64 l, .int .i64 o, .int .i64 f, .int .i64 c, .int .i64 n] 41)) ((Chg.of_below ((Below.refl _ _).alloc (Nat.le_refl _) _)).mono (by simp)) ((Chg.of_below Hb9.out).mono (by simp))) ?_
      with_reducible exact chg11 _ _ _ _ _ _ _ _ _ _ _
end Go.Proofs.Ytaicecnfodhlcaa
/- The chapter's first example: what the pure machine answers. -/
set_option linter.unusedVariables false
set_option linter.unusedSimpArgs false
namespace Go.Proofs.Ytaicecnfodhlcaa
open Go.RowKit Go.Deep

def c0 : Cfg := ⟨[⟨10, 10, 0⟩], 1, 1, 1, 9, 1, 1, 1, 1, 100, 100, 100⟩
theorem c0_right : c0.right = true := by decide
def kA : ByteArray := ⟨#[97]⟩
def r0 : Rw := ⟨⟨0, kA, 0⟩, ⟨1, 5, 5, 5⟩⟩
theorem opr1 (k : ByteArray) : oprK k 1 = 0 := by
  have := oprK_bd k (n := 1) (by decide) (by decide)
  omega
theorem h_open : openCells c0.vs 3 noMark = [⟨0, ByteArray.empty, 0⟩] := by kernel_rfl
theorem h_late : isLate c0.vs 3 noMark = false := by kernel_rfl
theorem h_least : (Mst.new c0).least kA = noMark := by
  unfold Mst.least
  rw [show (Mst.new c0).cfg.op = 1 from rfl, opr1]
  rfl
theorem h_event : (Mst.new c0).event false kA 3 5 false = ((Mst.new c0).taken kA 3 5, 1, 0) := by
  have hd : (Mst.new c0).dueOf (oprK kA (Mst.new c0).cfg.op) = none := rfl
  rw [Mst.event_go _ _ _ _ _ (by decide) (by decide) (by decide) (by decide) hd]
  have h1 : (Mst.new c0).late kA 3 = false := by
    unfold Mst.late
    rw [h_least]
    exact h_late
  have h2 : (Mst.new c0).over kA 3 5 = false := by
    unfold Mst.over Mst.openL
    rw [h_least]
    show ((openCells c0.vs 3 noMark).map (keyed kA)).any _ = false
    rw [h_open]
    rfl
  rw [h1, h2]
  rfl
theorem h_rows : ((Mst.new c0).taken kA 3 5).L = [r0] := by
  show putRows [] ((Mst.new c0).puts kA 3 5) = [r0]
  have h1 : (Mst.new c0).puts kA 3 5 = [r0] := by
    unfold Mst.puts Mst.openL
    rw [h_least]
    show ((openCells c0.vs 3 noMark).map (keyed kA)).map _ = [r0]
    rw [h_open]
    rfl
  rw [h1]
  unfold putRows sortR
  simp
theorem h_pin : answered 7 (((Mst.new c0).taken kA 3 5).pin 1) = (((Mst.new c0).taken kA 3 5).pinned 1, 0, ⟨2, 7, 0, 1, [], 0, 0, 0, 0, 0, 0⟩) := by
  have h0 : ((Mst.new c0).taken kA 3 5).heldN 1 = 0 := rfl
  unfold Mst.pin
  rw [h0, if_neg (by decide), if_neg (by decide)]
  exact answered_ok
theorem h_chk : chkRq ⟨4, 7, 0, [], ⟨0, ByteArray.empty, 0⟩, ⟨0, ByteArray.empty, 0⟩, 0⟩ = 0 := by kernel_rfl
end Go.Proofs.Ytaicecnfodhlcaa
/- The chapter's first example: the walk. -/
set_option linter.unusedVariables false
set_option linter.unusedSimpArgs false
namespace Go.Proofs.Ytaicecnfodhlcaa
open Go.RowKit Go.Deep

theorem bodyPost_cfg {fn : Func} {p : Tmp} (h : fn.results = #[.cell p 26]) {a : Act} {w : World} {R : Ending → World → Prop} {g : Nat} (c : Cfg) (va : Option Addr) (cap : Nat) (hp : a.tmps.getD p undef = .pointer (some ⟨g, 0, none⟩))
    (hb : w.heap[g]? = some (cfgO c va cap)) (hd : a.defers = []) (hR : R (.returned (cfgV c va cap)) w) : bodyPost Try.prog fn R .ret a w :=
  bodyPost_ret (results_cell_row h a.tmps w g 26 _ (0, 0) _ hp hb Try.underlying26 rfl (by kernel_rfl)) hd hR
set_option maxRecDepth 100000 in
set_option maxHeartbeats 2000000 in
theorem simple_any (w : World) : Calls Try.prog 8 #[] w fun e w' => ∃ b, e = .returned (cfgV c0 (some ⟨b, 0, none⟩) 1) ∧ Sl 3 viewL w' (some ⟨b, 0, none⟩) c0.vs ∧ Below w.heap.size w w' := by
  go_enter Try.func8, Try.ntmps8
  go_wp2_with fail
  refine bodyPost_cfg (g := w.heap.size) rfl c0 (some ⟨w.heap.size + 1, 0, none⟩) 1 rfl ?_ rfl ⟨w.heap.size + 1, rfl, ?_, ?_⟩
  · rw [blk_old (by simp)]
    exact blk_at rfl
  · have h := sl_new (sz := 3) (enc := viewL) (⟨10, 10, 0⟩ : View) (w.alloc (cfgO c0 (some ⟨w.heap.size + 1, 0, none⟩) 1)) 76 (cs := #[.int .i64 10, .int .i64 10, .int .i64 0]) rfl
    simp at h
    exact h
  · exact ((Below.refl _ _).alloc (Nat.le_refl _) _).alloc (by simp) _
theorem Turn.lower {w1 w2 : World} {B B' : MB} {n : Nat} (hT : Turn w1 w2 B B') (hl : ∀ g, B.lab g ≠ .no → n ≤ g) (hn : n ≤ w1.heap.size) : Below n w1 w2 ∧ ∀ g, B'.lab g ≠ .no → n ≤ g :=
  ⟨⟨hT.chg.os, hT.chg.tape, hT.chg.output, hT.chg.size, fun g hg => hT.chg.block g (by omega) (fun h => by have := hl g h; omega)⟩, fun g hg => by
    rcases hT.lab g hg with h | h
    · exact hl g h
    · omega⟩
/-- The pure machine behind the example. -/
abbrev hS1 : Mst := (Mst.new c0).taken kA 3 5
abbrev hS2 : Mst := hS1.pinned 1
theorem h_stats : hS2.statsV = statV 1 0 0 0 1 2 := by
  have h : hS2.L.length = 1 := by rw [show hS2.L = [r0] from h_rows]; rfl
  unfold Mst.statsV
  rw [h]
  rfl
set_option maxRecDepth 100000 in
set_option maxHeartbeats 4000000 in
theorem head_any (w : World) : Calls Try.prog 6 #[] w fun e w' => e = .returned (.bool true) ∧ Below w.heap.size w w' := by
  go_enter Try.func6, Try.ntmps6
  go_wp2_with fail
  refine (simple_any w).mono ?_
  rintro e w1 ⟨b, rfl, hs1, hb1⟩
  have hnew := mnew_ok c0 (some ⟨b, 0, none⟩) 1 w1 hs1 (by decide) c0_right
  go_wp2_with fail
  refine hnew.mono ?_
  rintro e w2 ⟨B, rfl, hM2, hb2, hl2⟩
  have hev := event_any hM2 false false kA 3 5 (by decide) (by unfold is64; decide) (by decide) (by decide)
  rw [h_event] at hev
  have hz2 := hb2.size
  have Hb2 := Lib.hid (hb1.trans (hb2.mono hb1.size))
  have Hl2 := Lib.hid hl2
  clear hnew hs1 hM2 hb2 hl2
  dsimp only at hev
  go_wp2_with fail
  refine hev.mono ?_
  rintro e w3 ⟨rfl, hM3, hT3⟩
  have hlow3 := hT3.lower Hl2.out hz2
  have hask := ask_pin hM3 1 7 (by decide) (by decide) (fun W hW => by
    have h := chkRq_any ⟨4, 7, 0, [], ⟨0, ByteArray.empty, 0⟩, ⟨0, ByteArray.empty, 0⟩, 0⟩ none 0 W (Sl.nil _ _ _ _) (by simp)
    rw [h_chk] at h
    exact h)
  rw [h_pin] at hask
  have hz3 := hlow3.1.size
  have Hlow3 := Lib.hid hlow3
  clear hev hM3 hT3 hlow3
  go_wp2_with fail
  refine hask.mono ?_
  rintro e w4 ⟨v, B4, rfl, ho4, hM4, hT4, hv4⟩
  obtain ⟨oa, oc, rfl, _⟩ := ho4.sl fun _ => rfl
  have hlow4 := hT4.lower Hlow3.out.2 (by omega)
  dsimp only [Rsp.at, respL]
  have hM4' : ∀ o : Obj, IsModel (w4.alloc o) B4 hS2 := fun o => hM4.below ((Below.refl _ _).alloc (Nat.le_refl _) o)
  have hmap := fun o => mMap_any (hM4' o) (by rw [show hS2.L = [r0] from h_rows]; decide)
  rw [show hS2.L = [r0] from h_rows] at hmap
  have hmp : B4.mp = B.mp := hT4.mp
  have HM4 := Lib.hid hM4'
  have Hlow4 := Lib.hid hlow4
  have Hmap := Lib.hid hmap
  clear hask ho4 hM4 hT4 hv4 hlow4 hM4' hmap
  rw [← hmp]
  go_wp2_with fail
  generalize hW5 : World.alloc w4 _ = W5
  have hf5 : W5.heap[w4.heap.size]? = some (.cells (respL 2 7 0 1 (.slice oa 0 oc) 0 0 0 0 0 0) 41 (0, 0)) := by rw [← hW5]; exact blk_at rfl
  have hb5 : Below w4.heap.size w4 W5 := by rw [← hW5]; exact (Below.refl _ _).alloc (Nat.le_refl _) _
  have hM5 : IsModel W5 B4 hS2 := by rw [← hW5]; exact HM4.out _
  have hmap5 := mMap_any hM5 (by rw [show hS2.L = [r0] from h_rows]; decide)
  rw [show hS2.L = [r0] from h_rows, hmp] at hmap5
  have HM5 := Lib.hid hM5
  have Hb5 := Lib.hid hb5
  clear hM5 hb5 hW5
  refine hmap5.mono ?_
  rintro e w6 ⟨v6, rfl, ho6, hb6⟩
  obtain ⟨o6, c6, rfl, _, hsl6, _, _⟩ := ho6.sl fun _ => rfl
  obtain ⟨g6, hg6, _, _⟩ := ho6.pos (by decide)
  subst hg6
  obtain ⟨g7, off7, he7, _, hc7⟩ := hsl6 0 (by decide)
  cases he7
  have s4 : w6.cell? ⟨g6, 4, none⟩ = some (.int .i64 5) := by simpa using hc7 4 (.int .i64 5) rfl
  have hf6 := (hb6.block _ (lt_of_block hf5)).trans hf5
  have y0 := cell_blk hf6 0
  have y1 := cell_blk hf6 1
  have y3 := cell_blk hf6 3
  simp at y0 y1 y3
  have hM6 := HM5.out.below hb6
  have hst := stats_any hM6
  rw [h_stats, hmp] at hst
  have Hb6 := Lib.hid hb6
  clear hc7 hsl6 ho6 hf6 hf5 hM6 hb6 hmap5
  go_wp2_with fail
  refine hst.mono ?_
  rintro e w7 ⟨rfl, hb7⟩
  dsimp only [statV]
  have hfd : ∀ W : World, (Instr.field 39 (.agg #[.int .i64 1, .int .i64 0, .int .i64 0, .int .i64 0, .int .i64 1, .int .i64 2]) 5).run Try.prog W = .ok (.int .i64 2) W := fun _ => by kernel_rfl
  go_wp2_with fail
  go_ret
  have h4 := Hlow4.out.1
  have h3 := Hlow3.out.1
  have k1 : w.heap.size ≤ w1.heap.size := hb1.size
  have k4 := h4.size
  have k5 := Hb5.out.size
  have k6 := Hb6.out.size
  have a2 := Hb2.out.trans (h3.mono k1)
  have a4 := a2.trans (h4.mono k1)
  have a5 := a4.trans (Hb5.out.mono a4.size)
  have a6 := a5.trans (Hb6.out.mono a5.size)
  exact ⟨rfl, a6.trans (hb7.mono a6.size)⟩
end Go.Proofs.Ytaicecnfodhlcaa
/- The row's last step where nothing that lay there has turned. -/
set_option linter.unusedVariables false
set_option linter.unusedSimpArgs false
namespace Go.Proofs.Ytaicecnfodhlcaa
open Go.RowKit Go.ChangeShapes Go.WideShapes Go.WideElems Go.Deep

theorem has_lt {P : Program} {W : World} {r : Reach} {b0 : Nat} {t e : TypeId} {A : Option Addr} {len cap : Nat} (ht : P.underlying t = some (.slice e)) (h : Value.okWide P W r b0 t (.slice A len cap)) : Under W.heap.size A := by
  intro g off sp hA
  subst hA
  simp only [Value.okWide, ht, Cell.okWide, Cell.ok] at h
  obtain ⟨_, _, _, _, row, cells, hsh, _⟩ := h
  unfold World.shape? at hsh
  cases hb : W.heap[g]? with
  | none => simp only [hb] at hsh; cases hsh
  | some o => exact (Array.getElem?_eq_some_iff.1 hb).1

/-- Arguments read as they did where nothing below the old size has turned. -/
theorem stays_all {H : Type} {enc : TypeId × Value → H} {P : Program} (hl : laidOutB P = true) {W W' : World} (hb : Below W.heap.size W W') {sp' : Nat → Bool} :
    ∀ {ts : List TypeId} {vs : List Value} {ds : List (DataW H)} {ps : List MemPlace}, (ts.all fun t => P.readableRec t && decide (t < P.types.size)) = true → DataW.TrodAll enc P W 0 (fun _ => true) true ts vs ds ps → (∀ p ∈ ps, sp' p.block = true) →
      DataW.TrodAll enc P W' 0 sp' true ts vs ds ps
  | [], [], [], _, _, h, _ => h
  | t :: ts, v :: vs, d :: ds, ps, hv, h, hs => by
    have hlt := h.lt
    obtain ⟨p, q, ⟨n, h1⟩, h2, e⟩ := h
    simp only [List.all_cons, Bool.and_eq_true, decide_eq_true_eq] at hv
    exact ⟨p, q, ⟨n, DataW.trod_stays (kids_book hl hv.1.1) (book_sized hv.1.1) (fun h => by cases h) ⟨hv.1.2, book_self t⟩ h1 (fun x hx => hb.same (hlt x (by rw [e]; exact List.mem_append_left _ hx))) (fun x hx => hs x (by rw [e]; exact List.mem_append_left _ hx))⟩,
      stays_all hl hb hv.2 h2 (fun x hx => hs x (by rw [e]; exact List.mem_append_right _ hx)), e⟩
/-- THE ROW's LAST STEP: a law of plain data (no variables) that answered true; nothing that lay there when the call began has turned. -/
theorem post_true {H : Type} {enc : TypeId × Value → H} {f : Func} {s : ChangeSpec} {apart : Bool} {W W' : World} {args : Array Value} {ds gs : List (DataW H)} {before : List MemPlace}
    (hW : DataW.Whole enc Try.prog f.params.toList s.vars apart W args.toList ds gs before) (hvs : s.vars = []) (hr : f.resultTypes = #[4])
    (hfn : s.fn H ds = { results := [.lit (.bool true)], args := ds }) (hts : (f.params.toList.all fun t => Try.prog.readableRec t && decide (t < Try.prog.types.size)) = true) (hl : laidOutB Try.prog = true)
    (hb : Below W.heap.size W W') : s.post enc Try.prog f apart true false false W args (.bool true) W' := by
  have hW' := hW
  have hlt : ∀ p ∈ before, p.block < W.heap.size := fun p hp => hW.lt p hp
  obtain ⟨pa, pv, hA, hV, hps, hz, hn⟩ := hW
  rw [hvs] at hV
  obtain ⟨rfl, rfl⟩ := trodVars_none hV
  have hA0 : DataW.TrodAll enc Try.prog W 0 (fun _ => true) true f.params.toList args.toList ds pa := hA
  have hps' : before = pa := by rw [hps, List.append_nil]
  have hspec : s.fn H (ds ++ []) = { results := [.lit (.bool true)], args := ds } := by rw [List.append_nil]; exact hfn
  have hsp : ∀ sp : Nat → Bool, (∀ p ∈ before, sp p.block = true) → DataW.TrodAll enc Try.prog W' 0 sp true f.params.toList args.toList ds pa := fun sp hs => stays_all hl hb hts hA0 (fun p hp => hs p (by rw [hps']; exact hp))
  have hold : ∀ p ∈ before, (fun b => decide (b < W.heap.size)) p.block = true := fun p hp => by simpa using hlt p hp
  have hvv : ∀ sp, DataW.TrodVars enc Try.prog W' sp s.vars ([] : List (DataW H)) [] := fun sp => by rw [hvs]; exact rfl
  have hres : ∀ (b : Nat) (sp : Nat → Bool) (hd : Bool), DataW.TrodAll enc Try.prog W' b sp hd f.resultTypes.toList ((Value.bool true).resultList f.resultTypes.size) (s.fn H (ds ++ [])).results [] := fun b sp hd => by
    rw [hspec, hr]
    exact trodAll_cons_mk (shut_bool Try.underlying4 _) trodAll_mk0
  refine ⟨ds, [], before, [], pa, [], hW', hres _ _ _, by rw [hspec]; exact hsp _ hold, by rw [hspec]; exact hvv _, World.keptBut_mono (fun p hp => ⟨hp, Or.inr (Or.inl (by rw [← hps']; exact hp))⟩) (hb.frame (· ∈ before)), fun h => by cases h⟩
end Go.Proofs.Ytaicecnfodhlcaa
