/- Ask. -/
import Derived.Test.YtaicecnfodhlcaaMAskP
set_option linter.unusedVariables false
set_option linter.unusedSimpArgs false
namespace Go.Proofs.Ytaicecnfodhlcaa
open Go.RowKit Go.Deep

/-- A request refused: what is told. -/
abbrev Rsp.bad (i er : Int) : Rsp := ⟨5, i, er, 0, [], 0, 0, 0, 0, 0, 0⟩
set_option maxRecDepth 100000 in
set_option maxHeartbeats 2000000 in
theorem ask1_any (g6 : Nat) (i er : Int) (w : World) (h6 : w.cell? ⟨g6, 1, none⟩ = some (.int .i64 i)) (l6 : g6 < w.heap.size) :
    Calls Try.prog 33 #[.int .i64 er, .pointer (some ⟨g6, 0, none⟩)] w fun e w' => e = .returned (.tuple #[respE 5 i er 0, .int .i64 0]) ∧ Below w.heap.size w w' := by
  have hb1 : Below w.heap.size w (w.alloc (.cells (respL 5 i er 0 (.slice none 0 0) 0 0 0 0 0 0) 41)) := (Below.refl _ _).alloc (Nat.le_refl _) _
  have Hb1 := Lib.hid hb1
  clear hb1
  go_enter Try.func33, Try.ntmps33
  go_wp2_with fail
  refine bodyPost_resp (g := w.heap.size) (k := 5) (i := i) (er := er) (ep := 0) (rows := .slice none 0 0) (t := 0) (l := 0) (o := 0) (f := 0) (c := 0) (n := 0) rfl rfl (blk_at rfl) rfl ⟨rfl, Hb1.out⟩
theorem chg_up {l : List Nat} {a b : World} (h : Chg l a b) (o : Obj) : Chg l a (b.alloc o) := h.trans ((Chg.of_below ((Below.refl _ _).alloc (Nat.le_refl _) _)).mono (by simp))
/-- What Ask makes of an inner answer. -/
def answered (i : Int) (x : Mst × Int × Rsp) : Mst × Int × Rsp := if x.2.1 = 0 then (x.1, 0, { x.2.2 with i := i }) else (x.1, 0, Rsp.bad i x.2.1)
theorem answered_ok {i : Int} {S : Mst} {r : Rsp} : answered i (S, 0, r) = (S, 0, { r with i := i }) := by unfold answered; rw [if_pos rfl]
theorem answered_bad {i er : Int} {S : Mst} {r : Rsp} (h : er ≠ 0) : answered i (S, er, r) = (S, 0, Rsp.bad i er) := by unfold answered; rw [if_neg h]
/-- The map of the seven closures. -/
theorem fmap7 (w : World) (F1 F2 F3 F4 F5 F6 F7 : Value) :
    ∃ w1 w2 w3 w4 w5 w6 w7, (Instr.mapUpdate 103 (.map (some w.heap.size)) (.int .i64 1) F1).run Try.prog (w.alloc (.map #[] 0)) = .ok () w1 ∧ (Instr.mapUpdate 103 (.map (some w.heap.size)) (.int .i64 2) F2).run Try.prog w1 = .ok () w2 ∧
      (Instr.mapUpdate 103 (.map (some w.heap.size)) (.int .i64 3) F3).run Try.prog w2 = .ok () w3 ∧ (Instr.mapUpdate 103 (.map (some w.heap.size)) (.int .i64 4) F4).run Try.prog w3 = .ok () w4 ∧
      (Instr.mapUpdate 103 (.map (some w.heap.size)) (.int .i64 5) F5).run Try.prog w4 = .ok () w5 ∧ (Instr.mapUpdate 103 (.map (some w.heap.size)) (.int .i64 6) F6).run Try.prog w5 = .ok () w6 ∧
      (Instr.mapUpdate 103 (.map (some w.heap.size)) (.int .i64 7) F7).run Try.prog w6 = .ok () w7 ∧ Below w.heap.size w w7 ∧ w.heap.size < w7.heap.size ∧
      ∀ k F, (k, F) ∈ [((1 : Int), F1), (2, F2), (3, F3), (4, F4), (5, F5), (6, F6), (7, F7)] → (Instr.lookup 103 (.map (some w.heap.size)) (.int .i64 k) false).run Try.prog w7 = .ok F w7 := by
  have h0 : MapIs intV (w.alloc (.map #[] 0)) w.heap.size [] := MapIs.new w
  obtain ⟨w1, r1, m1, c1, z1⟩ := MapIs.update (P := Try.prog) keyInt Try.underlying103 h0 1 F1
  obtain ⟨w2, r2, m2, c2, z2⟩ := MapIs.update (P := Try.prog) keyInt Try.underlying103 m1 2 F2
  obtain ⟨w3, r3, m3, c3, z3⟩ := MapIs.update (P := Try.prog) keyInt Try.underlying103 m2 3 F3
  obtain ⟨w4, r4, m4, c4, z4⟩ := MapIs.update (P := Try.prog) keyInt Try.underlying103 m3 4 F4
  obtain ⟨w5, r5, m5, c5, z5⟩ := MapIs.update (P := Try.prog) keyInt Try.underlying103 m4 5 F5
  obtain ⟨w6, r6, m6, c6, z6⟩ := MapIs.update (P := Try.prog) keyInt Try.underlying103 m5 6 F6
  obtain ⟨w7, r7, m7, c7, z7⟩ := MapIs.update (P := Try.prog) keyInt Try.underlying103 m6 7 F7
  have hz : (w.alloc (.map #[] 0)).heap.size = w.heap.size + 1 := by simp
  have hb0 : Below w.heap.size w (w.alloc (.map #[] 0)) := (Below.refl _ _).alloc (Nat.le_refl _) _
  have hc := ((((((Chg.of_grown c1).trans (Chg.of_grown c2)).trans (Chg.of_grown c3)).trans (Chg.of_grown c4)).trans (Chg.of_grown c5)).trans (Chg.of_grown c6)).trans (Chg.of_grown c7)
  refine ⟨w1, w2, w3, w4, w5, w6, w7, r1, r2, r3, r4, r5, r6, r7, Below.chain hb0 hc (by omega) (by simp), by omega, ?_⟩
  intro k F hk
  have hl := MapIs.lookup (P := Try.prog) keyInt Try.underlying103 m7 k false (z := .nilFunc) (by kernel_rfl)
  change (Instr.lookup _ _ (.int .i64 k) false).run _ _ = _ at hl
  have hm : (k, F) ∈ mPut (mPut (mPut (mPut (mPut (mPut (mPut [] 1 F1) 2 F2) 3 F3) 4 F4) 5 F5) 6 F6) 7 F7 := by
    have : mPut (mPut (mPut (mPut (mPut (mPut (mPut [] 1 F1) 2 F2) 3 F3) 4 F4) 5 F5) 6 F6) 7 F7 = [((1 : Int), F1), (2, F2), (3, F3), (4, F4), (5, F5), (6, F6), (7, F7)] := by simp [mPut]
    rw [this]
    exact hk
  rw [hl, mGet_some m7.nd hm]
  rfl
set_option maxRecDepth 100000 in
set_option maxHeartbeats 8000000 in
theorem ask_pin {w : World} {B : MB} {S : Mst} (h : IsModel w B S) (s i : Int) (hs1 : 1 ≤ s) (hs2 : s ≤ 64)
    (hchk : ∀ W, Below w.heap.size w W → Calls Try.prog 32 #[.agg #[.int .i64 4, .int .i64 i, .int .i64 0, .slice none 0 0, .int .i64 0, .string ByteArray.empty, .int .i64 0, .int .i64 0, .string ByteArray.empty, .int .i64 0, .int .i64 0]] W fun e w' => e = .returned (.int .i64 0) ∧ Below W.heap.size W w') :
    Calls Try.prog 12 #[.pointer (some ⟨B.mp, 0, none⟩), .int .i64 s, .agg #[.int .i64 4, .int .i64 i, .int .i64 0, .slice none 0 0, .int .i64 0, .string ByteArray.empty, .int .i64 0, .int .i64 0, .string ByteArray.empty, .int .i64 0, .int .i64 0], .int .i64 0] w
      (Says w B (answered i (S.pin s))) := by
  have d1 : decide (s < 1) = false := by simp; omega
  have d2 : decide (64 < s) = false := by simp; omega
  have Hh := Lib.hid h
  have Hchk := Lib.hid hchk
  have Hs := Lib.hid (And.intro hs1 hs2)
  clear h hchk hs1 hs2
  go_enter Try.func12, Try.ntmps12
  go_wp2_with fail
  generalize hW4 : World.alloc _ respO = W4
  have hb4 : Below w.heap.size w W4 := by
    rw [← hW4]
    exact ((((Below.refl _ _).alloc (Nat.le_refl _) _).alloc (by simp) _).alloc (by simp; omega) _).alloc (by simp; omega) _
  have hz4 : W4.heap.size = w.heap.size + 4 := by rw [← hW4]; simp
  have b0 : W4.heap[w.heap.size]? = some (.cells #[.pointer (some ⟨B.mp, 0, none⟩)] 28 (0, 0)) := by
    rw [← hW4, blk_old (by simp; omega), blk_old (by simp; omega), blk_old (by simp)]
    exact blk_at rfl
  have b1 : W4.heap[w.heap.size + 1]? = some (.cells #[.int .i64 s] 3 (0, 0)) := by
    rw [← hW4, blk_old (by simp), blk_old (by simp)]
    exact blk_at (by simp)
  have b2 : W4.heap[w.heap.size + 1 + 1]? = some (.cells #[.int .i64 4, .int .i64 i, .int .i64 0, .slice none 0 0, .int .i64 0, .string ByteArray.empty, .int .i64 0, .int .i64 0, .string ByteArray.empty, .int .i64 0, .int .i64 0] 48 (0, 0)) := by
    rw [← hW4, blk_old (by simp)]
    exact blk_at (by simp)
  have b3 : W4.heap[w.heap.size + 1 + 1 + 1]? = some respO := by
    rw [← hW4]
    exact blk_at (by simp)
  clear hW4
  refine (Hchk.out _ hb4).mono ?_
  rintro e w1 ⟨rfl, hb1⟩
  have hbw1 := hb4.trans (hb1.mono (by omega))
  have e0 := (hb1.block _ (by omega)).trans b0
  have e1 := (hb1.block _ (by omega)).trans b1
  have e2 := (hb1.block _ (by omega)).trans b2
  have e3 := (hb1.block _ (by omega)).trans b3
  have hz1 := hb1.size
  obtain ⟨v1, v2, v3, v4, v5, v6, v7, r1, r2, r3, r4, r5, r6, r7, hbv, hzv, hlk⟩ := fmap7 w1 (.func (.func 34) #[] #[.pointer (some ⟨w.heap.size, 0, none⟩), .pointer (some ⟨w.heap.size + 1, 0, none⟩), .pointer (some ⟨w.heap.size + 1 + 1, 0, none⟩)])
    (.func (.func 36) #[] #[.pointer (some ⟨w.heap.size, 0, none⟩), .pointer (some ⟨w.heap.size + 1, 0, none⟩), .pointer (some ⟨w.heap.size + 1 + 1, 0, none⟩)])
    (.func (.func 37) #[] #[.pointer (some ⟨w.heap.size, 0, none⟩), .pointer (some ⟨w.heap.size + 1, 0, none⟩), .pointer (some ⟨w.heap.size + 1 + 1, 0, none⟩)])
    (.func (.func 38) #[] #[.pointer (some ⟨w.heap.size, 0, none⟩), .pointer (some ⟨w.heap.size + 1, 0, none⟩)])
    (.func (.func 40) #[] #[.pointer (some ⟨w.heap.size, 0, none⟩), .pointer (some ⟨w.heap.size + 1, 0, none⟩), .pointer (some ⟨w.heap.size + 1 + 1, 0, none⟩)])
    (.func (.func 42) #[] #[.pointer (some ⟨w.heap.size, 0, none⟩), .pointer (some ⟨w.heap.size + 1, 0, none⟩), .pointer (some ⟨w.heap.size + 1 + 1, 0, none⟩)])
    (.func (.func 44) #[] #[.pointer (some ⟨w.heap.size, 0, none⟩)])
  have hmm : (Instr.makeMap 103 none).run Try.prog w1 = .ok (.map (some w1.heap.size)) (w1.alloc (.map #[] 0)) := rfl
  have hl4 := hlk 4 _ (.tail _ (.tail _ (.tail _ (.head _))))
  have hbv7 := hbw1.trans (hbv.mono hbw1.size)
  have k0 := (hbv.block _ (by omega)).trans e0
  have k1 := (hbv.block _ (by omega)).trans e1
  have k2 := (hbv.block _ (by omega)).trans e2
  have k3 := (hbv.block _ (by omega)).trans e3
  have a0 := cell_blk k0 0
  have a1 := cell_blk k1 0
  have a2 := cell_blk k2 0
  simp at a0 a1 a2
  have Hk := Lib.hid (And.intro k0 (And.intro k1 (And.intro k2 k3)))
  have Hbv := Lib.hid hbv7
  clear hlk hbv hbv7 hb4 b0 b1 b2 b3 e0 e1 e2 e3 hbw1 hb1 k0 k1 k2 k3
  go_wp2_with fail
  have hask := ask5_any (Hh.out.below Hbv.out) w.heap.size (w.heap.size + 1) s a0 a1 (by omega) (by omega) Hs.out.1 Hs.out.2
  generalize S.pin s = x at *
  obtain ⟨S', er, k, ii, re, ep, rows, t, l, o, f, c, n⟩ := x
  refine hask.mono ?_
  rintro e w8 ⟨v, B', rfl, ho, hM, hT, hv⟩
  obtain ⟨oa, oc, rfl, _⟩ := ho.sl fun _ => rfl
  have hz8 := hT.chg.size
  have j2 := (Says.mine Hh.out hT (g := w.heap.size + 1 + 1) (by omega) (by omega)).trans Hk.out.2.2.1
  have j3 := (Says.mine Hh.out hT (g := w.heap.size + 1 + 1 + 1) (by omega) (by omega)).trans Hk.out.2.2.2
  have rf := frozen_blk j3
  have z0 := cell_blk j3 0
  have z1 := cell_blk j3 1
  have z2 := cell_blk j3 2
  have z3 := cell_blk j3 3
  have z4 := cell_blk j3 4
  have z5 := cell_blk j3 5
  have z6 := cell_blk j3 6
  have z7 := cell_blk j3 7
  have z8 := cell_blk j3 8
  have z9 := cell_blk j3 9
  have z10 := cell_blk j3 10
  have y1 := cell_blk j2 1
  simp at z0 z1 z2 z3 z4 z5 z6 z7 z8 z9 z10 y1
  have Hj3 := Lib.hid j3
  have H := Lib.hid (And.intro ho (And.intro hM (And.intro hT hv)))
  have l8 : w.heap.size + 1 + 1 < w8.heap.size := by omega
  have l9 : w.heap.size + 1 + 1 + 1 < w8.heap.size := by omega
  clear hask a0 a1 a2 r1 r2 r3 r4 r5 r6 r7 hmm hl4 j2 j3 ho hM hT hv
  dsimp only [Rsp.at, respL]
  by_cases her : er = 0
  · subst her
    go_wp2_with fail
    refine bodyPost_resp (g := w.heap.size + 1 + 1 + 1) (k := k) (i := i) (er := re) (ep := ep) (rows := .slice oa rows.length oc) (t := t) (l := l) (o := o) (f := f) (c := c) (n := n) rfl rfl ?_ rfl ?_
    · rw [blk_old (by simp; omega)]
      with_reducible exact set11 Hj3.out _ _ _ _ _ _ _ _ _ _ _
    · rw [answered_ok]
      refine Says.wrap Hh.out Hbv.out (l := [w.heap.size + 1 + 1 + 1]) (fun g hg => by rw [List.mem_singleton.1 hg]; omega) H.out.1 H.out.2.1 H.out.2.2.1 H.out.2.2.2 ?_ rfl
      exact chg_up (chg11 _ _ _ _ _ _ _ _ _ _ _) _
  · have hb : (er != 0) = true := by simp [her]
    have Her := Lib.hid her
    clear her
    have h6 : ∀ ob : Obj, (w8.alloc ob).cell? ⟨w.heap.size + 1 + 1, 1, none⟩ = some (.int .i64 i) := fun ob => (((Below.refl w8.heap.size w8).alloc (Nat.le_refl _) ob).cell (p := ⟨w.heap.size + 1 + 1, 1, none⟩) l8).trans y1
    have H6 := Lib.hid h6
    clear h6
    go_wp2_with fail
    refine (ask1_any (w.heap.size + 1 + 1) i er _ (H6.out _) (by simp; omega)).mono ?_
    rintro e w9 ⟨rfl, hb9⟩
    have j9 := (hb9.block _ (by simp; omega)).trans ((blk_old l9).trans Hj3.out)
    have rf9 := frozen_blk j9
    clear z0 z1 z2 z3 z4 z5 z6 z7 z8 z9 z10 y1 rf
    have z0 := cell_blk j9 0
    have z1 := cell_blk j9 1
    have z2 := cell_blk j9 2
    have z3 := cell_blk j9 3
    have z4 := cell_blk j9 4
    have z5 := cell_blk j9 5
    have z6 := cell_blk j9 6
    have z7 := cell_blk j9 7
    have z8 := cell_blk j9 8
    have z9 := cell_blk j9 9
    have z10 := cell_blk j9 10
    simp at z0 z1 z2 z3 z4 z5 z6 z7 z8 z9 z10
    have Hj9 := Lib.hid j9
    have Hb9 := Lib.hid hb9
    clear j9 hb9
    go_wp2_with fail
    refine bodyPost_resp (g := w.heap.size + 1 + 1 + 1) (k := 5) (i := i) (er := er) (ep := 0) (rows := .slice none 0 0) (t := 0) (l := 0) (o := 0) (f := 0) (c := 0) (n := 0) rfl rfl ?_ rfl ?_
    · with_reducible exact set11 Hj9.out _ _ _ _ _ _ _ _ _ _ _
    · rw [answered_bad Her.out]
      refine Says.wrap (r := Rsp.bad i er) (v := .slice none 0 0) Hh.out Hbv.out (l := [w.heap.size + 1 + 1 + 1]) (fun g hg => by rw [List.mem_singleton.1 hg]; omega) (Own.nil _ _ _ _ _) H.out.2.1 H.out.2.2.1 (fun g hg => by cases hg) ?_ rfl
      refine Chg.trans (b := w9) (Chg.trans (b := w8.alloc (.cells #[.int .i64 k, .int .i64 ii, .int .i64 re, .int .i64 ep, .slice oa rows.length oc, .int .i64 t, .int .i64 l, .int .i64 o, .int .i64 f, .int .i64 c, .int .i64 n] 41)) ((Chg.of_below ((Below.refl _ _).alloc (Nat.le_refl _) _)).mono (by simp)) ((Chg.of_below Hb9.out).mono (by simp))) ?_
      with_reducible exact chg11 _ _ _ _ _ _ _ _ _ _ _
end Go.Proofs.Ytaicecnfodhlcaa
