/- Ask, kind by kind, over the contract of the kind's closure. -/
import Derived.Test.YtaicecnfodhlcaaJ14
set_option linter.unusedVariables false
set_option linter.unusedSimpArgs false
namespace Go.Proofs.Ytaicecnfodhlcaa
open Go.RowKit Go.Deep

set_option maxRecDepth 100000 in
set_option maxHeartbeats 8000000 in
theorem ask_1 {w : World} {B : MB} {S : Mst} (h : IsModel w B S) (s i ep : Int) (qa : Option Addr) (qn qc : Nat) (fv : Int) (fk : ByteArray) (fs tv : Int) (tk : ByteArray) (ts lim : Int) (hs1 : 1 ≤ s) (hs2 : s ≤ 64) (X : Mst × Int × Rsp)
    (hchk : ∀ W, Below w.heap.size w W → Calls Try.prog 32 #[.agg #[.int .i64 1, .int .i64 i, .int .i64 ep, .slice qa qn qc, .int .i64 fv, .string fk, .int .i64 fs, .int .i64 tv, .string tk, .int .i64 ts, .int .i64 lim]] W fun e w' => e = .returned (.int .i64 0) ∧ Below W.heap.size W w')
    (hcl : ∀ W, Below w.heap.size w W → IsModel W B S → W.heap[w.heap.size]? = some (.cells #[.pointer (some ⟨B.mp, 0, none⟩)] 28 (0, 0)) → W.heap[w.heap.size + 1]? = some (.cells #[.int .i64 s] 3 (0, 0)) → W.heap[w.heap.size + 1 + 1]? = some (.cells #[.int .i64 1, .int .i64 i, .int .i64 ep, .slice qa qn qc, .int .i64 fv, .string fk, .int .i64 fs, .int .i64 tv, .string tk, .int .i64 ts, .int .i64 lim] 48 (0, 0)) →
      Calls Try.prog 34 #[.pointer (some ⟨w.heap.size, 0, none⟩), .pointer (some ⟨w.heap.size + 1, 0, none⟩), .pointer (some ⟨w.heap.size + 1 + 1, 0, none⟩)] W (Says W B X)) :
    Calls Try.prog 12 #[.pointer (some ⟨B.mp, 0, none⟩), .int .i64 s, .agg #[.int .i64 1, .int .i64 i, .int .i64 ep, .slice qa qn qc, .int .i64 fv, .string fk, .int .i64 fs, .int .i64 tv, .string tk, .int .i64 ts, .int .i64 lim], .int .i64 0] w
      (Says w B (answered i X)) := by
  have d1 : decide (s < 1) = false := by simp; omega
  have d2 : decide (64 < s) = false := by simp; omega
  have Hh := Lib.hid h
  have Hchk := Lib.hid hchk
  have Hs := Lib.hid (And.intro hs1 hs2)
  have Hcl := Lib.hid hcl
  clear h hchk hs1 hs2 hcl
  go_enter Try.func12, Try.ntmps12
  go_wp2_with fail
  generalize hW4 : World.alloc _ respO = W4
  have hb4 : Below w.heap.size w W4 := by
    rw [← hW4]
    exact ((((Below.refl _ _).alloc (Nat.le_refl _) _).alloc (by simp) _).alloc (by simp; omega) _).alloc (by simp; omega) _
  have hz4 : W4.heap.size = w.heap.size + 4 := by rw [← hW4]; simp
  have b0 : W4.heap[w.heap.size]? = some (.cells #[.pointer (some ⟨B.mp, 0, none⟩)] 28 (0, 0)) := by
    rw [← hW4, blk_old (by simp; omega), blk_old (by simp; omega), blk_old (by simp)]
    exact blk_at rfl
  have b1 : W4.heap[w.heap.size + 1]? = some (.cells #[.int .i64 s] 3 (0, 0)) := by
    rw [← hW4, blk_old (by simp), blk_old (by simp)]
    exact blk_at (by simp)
  have b2 : W4.heap[w.heap.size + 1 + 1]? = some (.cells #[.int .i64 1, .int .i64 i, .int .i64 ep, .slice qa qn qc, .int .i64 fv, .string fk, .int .i64 fs, .int .i64 tv, .string tk, .int .i64 ts, .int .i64 lim] 48 (0, 0)) := by
    rw [← hW4, blk_old (by simp)]
    exact blk_at (by simp)
  have b3 : W4.heap[w.heap.size + 1 + 1 + 1]? = some respO := by
    rw [← hW4]
    exact blk_at (by simp)
  clear hW4
  refine (Hchk.out _ hb4).mono ?_
  rintro e w1 ⟨rfl, hb1⟩
  have hbw1 := hb4.trans (hb1.mono (by omega))
  have e0 := (hb1.block _ (by omega)).trans b0
  have e1 := (hb1.block _ (by omega)).trans b1
  have e2 := (hb1.block _ (by omega)).trans b2
  have e3 := (hb1.block _ (by omega)).trans b3
  have hz1 := hb1.size
  obtain ⟨v1, v2, v3, v4, v5, v6, v7, r1, r2, r3, r4, r5, r6, r7, hbv, hzv, hlk⟩ := fmap7 w1 (.func (.func 34) #[] #[.pointer (some ⟨w.heap.size, 0, none⟩), .pointer (some ⟨w.heap.size + 1, 0, none⟩), .pointer (some ⟨w.heap.size + 1 + 1, 0, none⟩)])
    (.func (.func 36) #[] #[.pointer (some ⟨w.heap.size, 0, none⟩), .pointer (some ⟨w.heap.size + 1, 0, none⟩), .pointer (some ⟨w.heap.size + 1 + 1, 0, none⟩)])
    (.func (.func 37) #[] #[.pointer (some ⟨w.heap.size, 0, none⟩), .pointer (some ⟨w.heap.size + 1, 0, none⟩), .pointer (some ⟨w.heap.size + 1 + 1, 0, none⟩)])
    (.func (.func 38) #[] #[.pointer (some ⟨w.heap.size, 0, none⟩), .pointer (some ⟨w.heap.size + 1, 0, none⟩)])
    (.func (.func 40) #[] #[.pointer (some ⟨w.heap.size, 0, none⟩), .pointer (some ⟨w.heap.size + 1, 0, none⟩), .pointer (some ⟨w.heap.size + 1 + 1, 0, none⟩)])
    (.func (.func 42) #[] #[.pointer (some ⟨w.heap.size, 0, none⟩), .pointer (some ⟨w.heap.size + 1, 0, none⟩), .pointer (some ⟨w.heap.size + 1 + 1, 0, none⟩)])
    (.func (.func 44) #[] #[.pointer (some ⟨w.heap.size, 0, none⟩)])
  have hmm : (Instr.makeMap 103 none).run Try.prog w1 = .ok (.map (some w1.heap.size)) (w1.alloc (.map #[] 0)) := rfl
  have hl4 := hlk 1 _ ((.head _))
  have hbv7 := hbw1.trans (hbv.mono hbw1.size)
  have k0 := (hbv.block _ (by omega)).trans e0
  have k1 := (hbv.block _ (by omega)).trans e1
  have k2 := (hbv.block _ (by omega)).trans e2
  have k3 := (hbv.block _ (by omega)).trans e3
  have a0 := cell_blk k0 0
  have a1 := cell_blk k1 0
  have a2 := cell_blk k2 0
  simp at a0 a1 a2
  have Hk := Lib.hid (And.intro k0 (And.intro k1 (And.intro k2 k3)))
  have Hbv := Lib.hid hbv7
  clear hlk hbv hbv7 hb4 b0 b1 b2 b3 e0 e1 e2 e3 hbw1 hb1 k0 k1 k2 k3
  go_wp2_with fail
  have hask := Hcl.out v7 Hbv.out (Hh.out.below Hbv.out) Hk.out.1 Hk.out.2.1 Hk.out.2.2.1
  clear Hcl
  obtain ⟨S', er, k, ii, re, ep', rows, t, l, o, f, c, n⟩ := X
  refine hask.mono ?_
  rintro e w8 ⟨v, B', rfl, ho, hM, hT, hv⟩
  obtain ⟨oa, oc, rfl, _⟩ := ho.sl fun _ => rfl
  have hz8 := hT.chg.size
  have j2 := (Says.mine Hh.out hT (g := w.heap.size + 1 + 1) (by omega) (by omega)).trans Hk.out.2.2.1
  have j3 := (Says.mine Hh.out hT (g := w.heap.size + 1 + 1 + 1) (by omega) (by omega)).trans Hk.out.2.2.2
  have rf := frozen_blk j3
  have z0 := cell_blk j3 0
  have z1 := cell_blk j3 1
  have z2 := cell_blk j3 2
  have z3 := cell_blk j3 3
  have z4 := cell_blk j3 4
  have z5 := cell_blk j3 5
  have z6 := cell_blk j3 6
  have z7 := cell_blk j3 7
  have z8 := cell_blk j3 8
  have z9 := cell_blk j3 9
  have z10 := cell_blk j3 10
  have y1 := cell_blk j2 1
  simp at z0 z1 z2 z3 z4 z5 z6 z7 z8 z9 z10 y1
  have Hj3 := Lib.hid j3
  have H := Lib.hid (And.intro ho (And.intro hM (And.intro hT hv)))
  have l8 : w.heap.size + 1 + 1 < w8.heap.size := by omega
  have l9 : w.heap.size + 1 + 1 + 1 < w8.heap.size := by omega
  clear hask a0 a1 a2 r1 r2 r3 r4 r5 r6 r7 hmm hl4 j2 j3 ho hM hT hv
  dsimp only [Rsp.at, respL]
  by_cases her : er = 0
  · subst her
    go_wp2_with fail
    refine bodyPost_resp (g := w.heap.size + 1 + 1 + 1) (k := k) (i := i) (er := re) (ep := ep') (rows := .slice oa rows.length oc) (t := t) (l := l) (o := o) (f := f) (c := c) (n := n) rfl rfl ?_ rfl ?_
    · rw [blk_old (by simp; omega)]
      with_reducible exact set11 Hj3.out _ _ _ _ _ _ _ _ _ _ _
    · rw [answered_ok]
      refine Says.wrap Hh.out Hbv.out (l := [w.heap.size + 1 + 1 + 1]) (fun g hg => by rw [List.mem_singleton.1 hg]; omega) H.out.1 H.out.2.1 H.out.2.2.1 H.out.2.2.2 ?_ rfl
      exact chg_up (chg11 _ _ _ _ _ _ _ _ _ _ _) _
  · have hb : (er != 0) = true := by simp [her]
    have Her := Lib.hid her
    clear her
    have h6 : ∀ ob : Obj, (w8.alloc ob).cell? ⟨w.heap.size + 1 + 1, 1, none⟩ = some (.int .i64 i) := fun ob => (((Below.refl w8.heap.size w8).alloc (Nat.le_refl _) ob).cell (p := ⟨w.heap.size + 1 + 1, 1, none⟩) l8).trans y1
    have H6 := Lib.hid h6
    clear h6
    go_wp2_with fail
    refine (ask1_any (w.heap.size + 1 + 1) i er _ (H6.out _) (by simp; omega)).mono ?_
    rintro e w9 ⟨rfl, hb9⟩
    have j9 := (hb9.block _ (by simp; omega)).trans ((blk_old l9).trans Hj3.out)
    have rf9 := frozen_blk j9
    clear z0 z1 z2 z3 z4 z5 z6 z7 z8 z9 z10 y1 rf
    have z0 := cell_blk j9 0
    have z1 := cell_blk j9 1
    have z2 := cell_blk j9 2
    have z3 := cell_blk j9 3
    have z4 := cell_blk j9 4
    have z5 := cell_blk j9 5
    have z6 := cell_blk j9 6
    have z7 := cell_blk j9 7
    have z8 := cell_blk j9 8
    have z9 := cell_blk j9 9
    have z10 := cell_blk j9 10
    simp at z0 z1 z2 z3 z4 z5 z6 z7 z8 z9 z10
    have Hj9 := Lib.hid j9
    have Hb9 := Lib.hid hb9
    clear j9 hb9
    go_wp2_with fail
    refine bodyPost_resp (g := w.heap.size + 1 + 1 + 1) (k := 5) (i := i) (er := er) (ep := 0) (rows := .slice none 0 0) (t := 0) (l := 0) (o := 0) (f := 0) (c := 0) (n := 0) rfl rfl ?_ rfl ?_
    · with_reducible exact set11 Hj9.out _ _ _ _ _ _ _ _ _ _ _
    · rw [answered_bad Her.out]
      refine Says.wrap (r := Rsp.bad i er) (v := .slice none 0 0) Hh.out Hbv.out (l := [w.heap.size + 1 + 1 + 1]) (fun g hg => by rw [List.mem_singleton.1 hg]; omega) (Own.nil _ _ _ _ _) H.out.2.1 H.out.2.2.1 (fun g hg => by cases hg) ?_ rfl
      refine Chg.trans (b := w9) (Chg.trans (b := w8.alloc (.cells #[.int .i64 k, .int .i64 ii, .int .i64 re, .int .i64 ep', .slice oa rows.length oc, .int .i64 t, .int .i64 l, .int .i64 o, .int .i64 f, .int .i64 c, .int .i64 n] 41)) ((Chg.of_below ((Below.refl _ _).alloc (Nat.le_refl _) _)).mono (by simp)) ((Chg.of_below Hb9.out).mono (by simp))) ?_
      with_reducible exact chg11 _ _ _ _ _ _ _ _ _ _ _
set_option maxRecDepth 100000 in
set_option maxHeartbeats 8000000 in
theorem ask_2 {w : World} {B : MB} {S : Mst} (h : IsModel w B S) (s i ep : Int) (qa : Option Addr) (qn qc : Nat) (fv : Int) (fk : ByteArray) (fs tv : Int) (tk : ByteArray) (ts lim : Int) (hs1 : 1 ≤ s) (hs2 : s ≤ 64) (X : Mst × Int × Rsp)
    (hchk : ∀ W, Below w.heap.size w W → Calls Try.prog 32 #[.agg #[.int .i64 2, .int .i64 i, .int .i64 ep, .slice qa qn qc, .int .i64 fv, .string fk, .int .i64 fs, .int .i64 tv, .string tk, .int .i64 ts, .int .i64 lim]] W fun e w' => e = .returned (.int .i64 0) ∧ Below W.heap.size W w')
    (hcl : ∀ W, Below w.heap.size w W → IsModel W B S → W.heap[w.heap.size]? = some (.cells #[.pointer (some ⟨B.mp, 0, none⟩)] 28 (0, 0)) → W.heap[w.heap.size + 1]? = some (.cells #[.int .i64 s] 3 (0, 0)) → W.heap[w.heap.size + 1 + 1]? = some (.cells #[.int .i64 2, .int .i64 i, .int .i64 ep, .slice qa qn qc, .int .i64 fv, .string fk, .int .i64 fs, .int .i64 tv, .string tk, .int .i64 ts, .int .i64 lim] 48 (0, 0)) →
      Calls Try.prog 36 #[.pointer (some ⟨w.heap.size, 0, none⟩), .pointer (some ⟨w.heap.size + 1, 0, none⟩), .pointer (some ⟨w.heap.size + 1 + 1, 0, none⟩)] W (Says W B X)) :
    Calls Try.prog 12 #[.pointer (some ⟨B.mp, 0, none⟩), .int .i64 s, .agg #[.int .i64 2, .int .i64 i, .int .i64 ep, .slice qa qn qc, .int .i64 fv, .string fk, .int .i64 fs, .int .i64 tv, .string tk, .int .i64 ts, .int .i64 lim], .int .i64 0] w
      (Says w B (answered i X)) := by
  have d1 : decide (s < 1) = false := by simp; omega
  have d2 : decide (64 < s) = false := by simp; omega
  have Hh := Lib.hid h
  have Hchk := Lib.hid hchk
  have Hs := Lib.hid (And.intro hs1 hs2)
  have Hcl := Lib.hid hcl
  clear h hchk hs1 hs2 hcl
  go_enter Try.func12, Try.ntmps12
  go_wp2_with fail
  generalize hW4 : World.alloc _ respO = W4
  have hb4 : Below w.heap.size w W4 := by
    rw [← hW4]
    exact ((((Below.refl _ _).alloc (Nat.le_refl _) _).alloc (by simp) _).alloc (by simp; omega) _).alloc (by simp; omega) _
  have hz4 : W4.heap.size = w.heap.size + 4 := by rw [← hW4]; simp
  have b0 : W4.heap[w.heap.size]? = some (.cells #[.pointer (some ⟨B.mp, 0, none⟩)] 28 (0, 0)) := by
    rw [← hW4, blk_old (by simp; omega), blk_old (by simp; omega), blk_old (by simp)]
    exact blk_at rfl
  have b1 : W4.heap[w.heap.size + 1]? = some (.cells #[.int .i64 s] 3 (0, 0)) := by
    rw [← hW4, blk_old (by simp), blk_old (by simp)]
    exact blk_at (by simp)
  have b2 : W4.heap[w.heap.size + 1 + 1]? = some (.cells #[.int .i64 2, .int .i64 i, .int .i64 ep, .slice qa qn qc, .int .i64 fv, .string fk, .int .i64 fs, .int .i64 tv, .string tk, .int .i64 ts, .int .i64 lim] 48 (0, 0)) := by
    rw [← hW4, blk_old (by simp)]
    exact blk_at (by simp)
  have b3 : W4.heap[w.heap.size + 1 + 1 + 1]? = some respO := by
    rw [← hW4]
    exact blk_at (by simp)
  clear hW4
  refine (Hchk.out _ hb4).mono ?_
  rintro e w1 ⟨rfl, hb1⟩
  have hbw1 := hb4.trans (hb1.mono (by omega))
  have e0 := (hb1.block _ (by omega)).trans b0
  have e1 := (hb1.block _ (by omega)).trans b1
  have e2 := (hb1.block _ (by omega)).trans b2
  have e3 := (hb1.block _ (by omega)).trans b3
  have hz1 := hb1.size
  obtain ⟨v1, v2, v3, v4, v5, v6, v7, r1, r2, r3, r4, r5, r6, r7, hbv, hzv, hlk⟩ := fmap7 w1 (.func (.func 34) #[] #[.pointer (some ⟨w.heap.size, 0, none⟩), .pointer (some ⟨w.heap.size + 1, 0, none⟩), .pointer (some ⟨w.heap.size + 1 + 1, 0, none⟩)])
    (.func (.func 36) #[] #[.pointer (some ⟨w.heap.size, 0, none⟩), .pointer (some ⟨w.heap.size + 1, 0, none⟩), .pointer (some ⟨w.heap.size + 1 + 1, 0, none⟩)])
    (.func (.func 37) #[] #[.pointer (some ⟨w.heap.size, 0, none⟩), .pointer (some ⟨w.heap.size + 1, 0, none⟩), .pointer (some ⟨w.heap.size + 1 + 1, 0, none⟩)])
    (.func (.func 38) #[] #[.pointer (some ⟨w.heap.size, 0, none⟩), .pointer (some ⟨w.heap.size + 1, 0, none⟩)])
    (.func (.func 40) #[] #[.pointer (some ⟨w.heap.size, 0, none⟩), .pointer (some ⟨w.heap.size + 1, 0, none⟩), .pointer (some ⟨w.heap.size + 1 + 1, 0, none⟩)])
    (.func (.func 42) #[] #[.pointer (some ⟨w.heap.size, 0, none⟩), .pointer (some ⟨w.heap.size + 1, 0, none⟩), .pointer (some ⟨w.heap.size + 1 + 1, 0, none⟩)])
    (.func (.func 44) #[] #[.pointer (some ⟨w.heap.size, 0, none⟩)])
  have hmm : (Instr.makeMap 103 none).run Try.prog w1 = .ok (.map (some w1.heap.size)) (w1.alloc (.map #[] 0)) := rfl
  have hl4 := hlk 2 _ ((.tail _ (.head _)))
  have hbv7 := hbw1.trans (hbv.mono hbw1.size)
  have k0 := (hbv.block _ (by omega)).trans e0
  have k1 := (hbv.block _ (by omega)).trans e1
  have k2 := (hbv.block _ (by omega)).trans e2
  have k3 := (hbv.block _ (by omega)).trans e3
  have a0 := cell_blk k0 0
  have a1 := cell_blk k1 0
  have a2 := cell_blk k2 0
  simp at a0 a1 a2
  have Hk := Lib.hid (And.intro k0 (And.intro k1 (And.intro k2 k3)))
  have Hbv := Lib.hid hbv7
  clear hlk hbv hbv7 hb4 b0 b1 b2 b3 e0 e1 e2 e3 hbw1 hb1 k0 k1 k2 k3
  go_wp2_with fail
  have hask := Hcl.out v7 Hbv.out (Hh.out.below Hbv.out) Hk.out.1 Hk.out.2.1 Hk.out.2.2.1
  clear Hcl
  obtain ⟨S', er, k, ii, re, ep', rows, t, l, o, f, c, n⟩ := X
  refine hask.mono ?_
  rintro e w8 ⟨v, B', rfl, ho, hM, hT, hv⟩
  obtain ⟨oa, oc, rfl, _⟩ := ho.sl fun _ => rfl
  have hz8 := hT.chg.size
  have j2 := (Says.mine Hh.out hT (g := w.heap.size + 1 + 1) (by omega) (by omega)).trans Hk.out.2.2.1
  have j3 := (Says.mine Hh.out hT (g := w.heap.size + 1 + 1 + 1) (by omega) (by omega)).trans Hk.out.2.2.2
  have rf := frozen_blk j3
  have z0 := cell_blk j3 0
  have z1 := cell_blk j3 1
  have z2 := cell_blk j3 2
  have z3 := cell_blk j3 3
  have z4 := cell_blk j3 4
  have z5 := cell_blk j3 5
  have z6 := cell_blk j3 6
  have z7 := cell_blk j3 7
  have z8 := cell_blk j3 8
  have z9 := cell_blk j3 9
  have z10 := cell_blk j3 10
  have y1 := cell_blk j2 1
  simp at z0 z1 z2 z3 z4 z5 z6 z7 z8 z9 z10 y1
  have Hj3 := Lib.hid j3
  have H := Lib.hid (And.intro ho (And.intro hM (And.intro hT hv)))
  have l8 : w.heap.size + 1 + 1 < w8.heap.size := by omega
  have l9 : w.heap.size + 1 + 1 + 1 < w8.heap.size := by omega
  clear hask a0 a1 a2 r1 r2 r3 r4 r5 r6 r7 hmm hl4 j2 j3 ho hM hT hv
  dsimp only [Rsp.at, respL]
  by_cases her : er = 0
  · subst her
    go_wp2_with fail
    refine bodyPost_resp (g := w.heap.size + 1 + 1 + 1) (k := k) (i := i) (er := re) (ep := ep') (rows := .slice oa rows.length oc) (t := t) (l := l) (o := o) (f := f) (c := c) (n := n) rfl rfl ?_ rfl ?_
    · rw [blk_old (by simp; omega)]
      with_reducible exact set11 Hj3.out _ _ _ _ _ _ _ _ _ _ _
    · rw [answered_ok]
      refine Says.wrap Hh.out Hbv.out (l := [w.heap.size + 1 + 1 + 1]) (fun g hg => by rw [List.mem_singleton.1 hg]; omega) H.out.1 H.out.2.1 H.out.2.2.1 H.out.2.2.2 ?_ rfl
      exact chg_up (chg11 _ _ _ _ _ _ _ _ _ _ _) _
  · have hb : (er != 0) = true := by simp [her]
    have Her := Lib.hid her
    clear her
    have h6 : ∀ ob : Obj, (w8.alloc ob).cell? ⟨w.heap.size + 1 + 1, 1, none⟩ = some (.int .i64 i) := fun ob => (((Below.refl w8.heap.size w8).alloc (Nat.le_refl _) ob).cell (p := ⟨w.heap.size + 1 + 1, 1, none⟩) l8).trans y1
    have H6 := Lib.hid h6
    clear h6
    go_wp2_with fail
    refine (ask1_any (w.heap.size + 1 + 1) i er _ (H6.out _) (by simp; omega)).mono ?_
    rintro e w9 ⟨rfl, hb9⟩
    have j9 := (hb9.block _ (by simp; omega)).trans ((blk_old l9).trans Hj3.out)
    have rf9 := frozen_blk j9
    clear z0 z1 z2 z3 z4 z5 z6 z7 z8 z9 z10 y1 rf
    have z0 := cell_blk j9 0
    have z1 := cell_blk j9 1
    have z2 := cell_blk j9 2
    have z3 := cell_blk j9 3
    have z4 := cell_blk j9 4
    have z5 := cell_blk j9 5
    have z6 := cell_blk j9 6
    have z7 := cell_blk j9 7
    have z8 := cell_blk j9 8
    have z9 := cell_blk j9 9
    have z10 := cell_blk j9 10
    simp at z0 z1 z2 z3 z4 z5 z6 z7 z8 z9 z10
    have Hj9 := Lib.hid j9
    have Hb9 := Lib.hid hb9
    clear j9 hb9
    go_wp2_with fail
    refine bodyPost_resp (g := w.heap.size + 1 + 1 + 1) (k := 5) (i := i) (er := er) (ep := 0) (rows := .slice none 0 0) (t := 0) (l := 0) (o := 0) (f := 0) (c := 0) (n := 0) rfl rfl ?_ rfl ?_
    · with_reducible exact set11 Hj9.out _ _ _ _ _ _ _ _ _ _ _
    · rw [answered_bad Her.out]
      refine Says.wrap (r := Rsp.bad i er) (v := .slice none 0 0) Hh.out Hbv.out (l := [w.heap.size + 1 + 1 + 1]) (fun g hg => by rw [List.mem_singleton.1 hg]; omega) (Own.nil _ _ _ _ _) H.out.2.1 H.out.2.2.1 (fun g hg => by cases hg) ?_ rfl
      refine Chg.trans (b := w9) (Chg.trans (b := w8.alloc (.cells #[.int .i64 k, .int .i64 ii, .int .i64 re, .int .i64 ep', .slice oa rows.length oc, .int .i64 t, .int .i64 l, .int .i64 o, .int .i64 f, .int .i64 c, .int .i64 n] 41)) ((Chg.of_below ((Below.refl _ _).alloc (Nat.le_refl _) _)).mono (by simp)) ((Chg.of_below Hb9.out).mono (by simp))) ?_
      with_reducible exact chg11 _ _ _ _ _ _ _ _ _ _ _
set_option maxRecDepth 100000 in
set_option maxHeartbeats 8000000 in
theorem ask_3 {w : World} {B : MB} {S : Mst} (h : IsModel w B S) (s i ep : Int) (qa : Option Addr) (qn qc : Nat) (fv : Int) (fk : ByteArray) (fs tv : Int) (tk : ByteArray) (ts lim : Int) (hs1 : 1 ≤ s) (hs2 : s ≤ 64) (X : Mst × Int × Rsp)
    (hchk : ∀ W, Below w.heap.size w W → Calls Try.prog 32 #[.agg #[.int .i64 3, .int .i64 i, .int .i64 ep, .slice qa qn qc, .int .i64 fv, .string fk, .int .i64 fs, .int .i64 tv, .string tk, .int .i64 ts, .int .i64 lim]] W fun e w' => e = .returned (.int .i64 0) ∧ Below W.heap.size W w')
    (hcl : ∀ W, Below w.heap.size w W → IsModel W B S → W.heap[w.heap.size]? = some (.cells #[.pointer (some ⟨B.mp, 0, none⟩)] 28 (0, 0)) → W.heap[w.heap.size + 1]? = some (.cells #[.int .i64 s] 3 (0, 0)) → W.heap[w.heap.size + 1 + 1]? = some (.cells #[.int .i64 3, .int .i64 i, .int .i64 ep, .slice qa qn qc, .int .i64 fv, .string fk, .int .i64 fs, .int .i64 tv, .string tk, .int .i64 ts, .int .i64 lim] 48 (0, 0)) →
      Calls Try.prog 37 #[.pointer (some ⟨w.heap.size, 0, none⟩), .pointer (some ⟨w.heap.size + 1, 0, none⟩), .pointer (some ⟨w.heap.size + 1 + 1, 0, none⟩)] W (Says W B X)) :
    Calls Try.prog 12 #[.pointer (some ⟨B.mp, 0, none⟩), .int .i64 s, .agg #[.int .i64 3, .int .i64 i, .int .i64 ep, .slice qa qn qc, .int .i64 fv, .string fk, .int .i64 fs, .int .i64 tv, .string tk, .int .i64 ts, .int .i64 lim], .int .i64 0] w
      (Says w B (answered i X)) := by
  have d1 : decide (s < 1) = false := by simp; omega
  have d2 : decide (64 < s) = false := by simp; omega
  have Hh := Lib.hid h
  have Hchk := Lib.hid hchk
  have Hs := Lib.hid (And.intro hs1 hs2)
  have Hcl := Lib.hid hcl
  clear h hchk hs1 hs2 hcl
  go_enter Try.func12, Try.ntmps12
  go_wp2_with fail
  generalize hW4 : World.alloc _ respO = W4
  have hb4 : Below w.heap.size w W4 := by
    rw [← hW4]
    exact ((((Below.refl _ _).alloc (Nat.le_refl _) _).alloc (by simp) _).alloc (by simp; omega) _).alloc (by simp; omega) _
  have hz4 : W4.heap.size = w.heap.size + 4 := by rw [← hW4]; simp
  have b0 : W4.heap[w.heap.size]? = some (.cells #[.pointer (some ⟨B.mp, 0, none⟩)] 28 (0, 0)) := by
    rw [← hW4, blk_old (by simp; omega), blk_old (by simp; omega), blk_old (by simp)]
    exact blk_at rfl
  have b1 : W4.heap[w.heap.size + 1]? = some (.cells #[.int .i64 s] 3 (0, 0)) := by
    rw [← hW4, blk_old (by simp), blk_old (by simp)]
    exact blk_at (by simp)
  have b2 : W4.heap[w.heap.size + 1 + 1]? = some (.cells #[.int .i64 3, .int .i64 i, .int .i64 ep, .slice qa qn qc, .int .i64 fv, .string fk, .int .i64 fs, .int .i64 tv, .string tk, .int .i64 ts, .int .i64 lim] 48 (0, 0)) := by
    rw [← hW4, blk_old (by simp)]
    exact blk_at (by simp)
  have b3 : W4.heap[w.heap.size + 1 + 1 + 1]? = some respO := by
    rw [← hW4]
    exact blk_at (by simp)
  clear hW4
  refine (Hchk.out _ hb4).mono ?_
  rintro e w1 ⟨rfl, hb1⟩
  have hbw1 := hb4.trans (hb1.mono (by omega))
  have e0 := (hb1.block _ (by omega)).trans b0
  have e1 := (hb1.block _ (by omega)).trans b1
  have e2 := (hb1.block _ (by omega)).trans b2
  have e3 := (hb1.block _ (by omega)).trans b3
  have hz1 := hb1.size
  obtain ⟨v1, v2, v3, v4, v5, v6, v7, r1, r2, r3, r4, r5, r6, r7, hbv, hzv, hlk⟩ := fmap7 w1 (.func (.func 34) #[] #[.pointer (some ⟨w.heap.size, 0, none⟩), .pointer (some ⟨w.heap.size + 1, 0, none⟩), .pointer (some ⟨w.heap.size + 1 + 1, 0, none⟩)])
    (.func (.func 36) #[] #[.pointer (some ⟨w.heap.size, 0, none⟩), .pointer (some ⟨w.heap.size + 1, 0, none⟩), .pointer (some ⟨w.heap.size + 1 + 1, 0, none⟩)])
    (.func (.func 37) #[] #[.pointer (some ⟨w.heap.size, 0, none⟩), .pointer (some ⟨w.heap.size + 1, 0, none⟩), .pointer (some ⟨w.heap.size + 1 + 1, 0, none⟩)])
    (.func (.func 38) #[] #[.pointer (some ⟨w.heap.size, 0, none⟩), .pointer (some ⟨w.heap.size + 1, 0, none⟩)])
    (.func (.func 40) #[] #[.pointer (some ⟨w.heap.size, 0, none⟩), .pointer (some ⟨w.heap.size + 1, 0, none⟩), .pointer (some ⟨w.heap.size + 1 + 1, 0, none⟩)])
    (.func (.func 42) #[] #[.pointer (some ⟨w.heap.size, 0, none⟩), .pointer (some ⟨w.heap.size + 1, 0, none⟩), .pointer (some ⟨w.heap.size + 1 + 1, 0, none⟩)])
    (.func (.func 44) #[] #[.pointer (some ⟨w.heap.size, 0, none⟩)])
  have hmm : (Instr.makeMap 103 none).run Try.prog w1 = .ok (.map (some w1.heap.size)) (w1.alloc (.map #[] 0)) := rfl
  have hl4 := hlk 3 _ ((.tail _ (.tail _ (.head _))))
  have hbv7 := hbw1.trans (hbv.mono hbw1.size)
  have k0 := (hbv.block _ (by omega)).trans e0
  have k1 := (hbv.block _ (by omega)).trans e1
  have k2 := (hbv.block _ (by omega)).trans e2
  have k3 := (hbv.block _ (by omega)).trans e3
  have a0 := cell_blk k0 0
  have a1 := cell_blk k1 0
  have a2 := cell_blk k2 0
  simp at a0 a1 a2
  have Hk := Lib.hid (And.intro k0 (And.intro k1 (And.intro k2 k3)))
  have Hbv := Lib.hid hbv7
  clear hlk hbv hbv7 hb4 b0 b1 b2 b3 e0 e1 e2 e3 hbw1 hb1 k0 k1 k2 k3
  go_wp2_with fail
  have hask := Hcl.out v7 Hbv.out (Hh.out.below Hbv.out) Hk.out.1 Hk.out.2.1 Hk.out.2.2.1
  clear Hcl
  obtain ⟨S', er, k, ii, re, ep', rows, t, l, o, f, c, n⟩ := X
  refine hask.mono ?_
  rintro e w8 ⟨v, B', rfl, ho, hM, hT, hv⟩
  obtain ⟨oa, oc, rfl, _⟩ := ho.sl fun _ => rfl
  have hz8 := hT.chg.size
  have j2 := (Says.mine Hh.out hT (g := w.heap.size + 1 + 1) (by omega) (by omega)).trans Hk.out.2.2.1
  have j3 := (Says.mine Hh.out hT (g := w.heap.size + 1 + 1 + 1) (by omega) (by omega)).trans Hk.out.2.2.2
  have rf := frozen_blk j3
  have z0 := cell_blk j3 0
  have z1 := cell_blk j3 1
  have z2 := cell_blk j3 2
  have z3 := cell_blk j3 3
  have z4 := cell_blk j3 4
  have z5 := cell_blk j3 5
  have z6 := cell_blk j3 6
  have z7 := cell_blk j3 7
  have z8 := cell_blk j3 8
  have z9 := cell_blk j3 9
  have z10 := cell_blk j3 10
  have y1 := cell_blk j2 1
  simp at z0 z1 z2 z3 z4 z5 z6 z7 z8 z9 z10 y1
  have Hj3 := Lib.hid j3
  have H := Lib.hid (And.intro ho (And.intro hM (And.intro hT hv)))
  have l8 : w.heap.size + 1 + 1 < w8.heap.size := by omega
  have l9 : w.heap.size + 1 + 1 + 1 < w8.heap.size := by omega
  clear hask a0 a1 a2 r1 r2 r3 r4 r5 r6 r7 hmm hl4 j2 j3 ho hM hT hv
  dsimp only [Rsp.at, respL]
  by_cases her : er = 0
  · subst her
    go_wp2_with fail
    refine bodyPost_resp (g := w.heap.size + 1 + 1 + 1) (k := k) (i := i) (er := re) (ep := ep') (rows := .slice oa rows.length oc) (t := t) (l := l) (o := o) (f := f) (c := c) (n := n) rfl rfl ?_ rfl ?_
    · rw [blk_old (by simp; omega)]
      with_reducible exact set11 Hj3.out _ _ _ _ _ _ _ _ _ _ _
    · rw [answered_ok]
      refine Says.wrap Hh.out Hbv.out (l := [w.heap.size + 1 + 1 + 1]) (fun g hg => by rw [List.mem_singleton.1 hg]; omega) H.out.1 H.out.2.1 H.out.2.2.1 H.out.2.2.2 ?_ rfl
      exact chg_up (chg11 _ _ _ _ _ _ _ _ _ _ _) _
  · have hb : (er != 0) = true := by simp [her]
    have Her := Lib.hid her
    clear her
    have h6 : ∀ ob : Obj, (w8.alloc ob).cell? ⟨w.heap.size + 1 + 1, 1, none⟩ = some (.int .i64 i) := fun ob => (((Below.refl w8.heap.size w8).alloc (Nat.le_refl _) ob).cell (p := ⟨w.heap.size + 1 + 1, 1, none⟩) l8).trans y1
    have H6 := Lib.hid h6
    clear h6
    go_wp2_with fail
    refine (ask1_any (w.heap.size + 1 + 1) i er _ (H6.out _) (by simp; omega)).mono ?_
    rintro e w9 ⟨rfl, hb9⟩
    have j9 := (hb9.block _ (by simp; omega)).trans ((blk_old l9).trans Hj3.out)
    have rf9 := frozen_blk j9
    clear z0 z1 z2 z3 z4 z5 z6 z7 z8 z9 z10 y1 rf
    have z0 := cell_blk j9 0
    have z1 := cell_blk j9 1
    have z2 := cell_blk j9 2
    have z3 := cell_blk j9 3
    have z4 := cell_blk j9 4
    have z5 := cell_blk j9 5
    have z6 := cell_blk j9 6
    have z7 := cell_blk j9 7
    have z8 := cell_blk j9 8
    have z9 := cell_blk j9 9
    have z10 := cell_blk j9 10
    simp at z0 z1 z2 z3 z4 z5 z6 z7 z8 z9 z10
    have Hj9 := Lib.hid j9
    have Hb9 := Lib.hid hb9
    clear j9 hb9
    go_wp2_with fail
    refine bodyPost_resp (g := w.heap.size + 1 + 1 + 1) (k := 5) (i := i) (er := er) (ep := 0) (rows := .slice none 0 0) (t := 0) (l := 0) (o := 0) (f := 0) (c := 0) (n := 0) rfl rfl ?_ rfl ?_
    · with_reducible exact set11 Hj9.out _ _ _ _ _ _ _ _ _ _ _
    · rw [answered_bad Her.out]
      refine Says.wrap (r := Rsp.bad i er) (v := .slice none 0 0) Hh.out Hbv.out (l := [w.heap.size + 1 + 1 + 1]) (fun g hg => by rw [List.mem_singleton.1 hg]; omega) (Own.nil _ _ _ _ _) H.out.2.1 H.out.2.2.1 (fun g hg => by cases hg) ?_ rfl
      refine Chg.trans (b := w9) (Chg.trans (b := w8.alloc (.cells #[.int .i64 k, .int .i64 ii, .int .i64 re, .int .i64 ep', .slice oa rows.length oc, .int .i64 t, .int .i64 l, .int .i64 o, .int .i64 f, .int .i64 c, .int .i64 n] 41)) ((Chg.of_below ((Below.refl _ _).alloc (Nat.le_refl _) _)).mono (by simp)) ((Chg.of_below Hb9.out).mono (by simp))) ?_
      with_reducible exact chg11 _ _ _ _ _ _ _ _ _ _ _
set_option maxRecDepth 100000 in
set_option maxHeartbeats 8000000 in
theorem ask_4 {w : World} {B : MB} {S : Mst} (h : IsModel w B S) (s i ep : Int) (qa : Option Addr) (qn qc : Nat) (fv : Int) (fk : ByteArray) (fs tv : Int) (tk : ByteArray) (ts lim : Int) (hs1 : 1 ≤ s) (hs2 : s ≤ 64) (X : Mst × Int × Rsp)
    (hchk : ∀ W, Below w.heap.size w W → Calls Try.prog 32 #[.agg #[.int .i64 4, .int .i64 i, .int .i64 ep, .slice qa qn qc, .int .i64 fv, .string fk, .int .i64 fs, .int .i64 tv, .string tk, .int .i64 ts, .int .i64 lim]] W fun e w' => e = .returned (.int .i64 0) ∧ Below W.heap.size W w')
    (hcl : ∀ W, Below w.heap.size w W → IsModel W B S → W.heap[w.heap.size]? = some (.cells #[.pointer (some ⟨B.mp, 0, none⟩)] 28 (0, 0)) → W.heap[w.heap.size + 1]? = some (.cells #[.int .i64 s] 3 (0, 0)) → W.heap[w.heap.size + 1 + 1]? = some (.cells #[.int .i64 4, .int .i64 i, .int .i64 ep, .slice qa qn qc, .int .i64 fv, .string fk, .int .i64 fs, .int .i64 tv, .string tk, .int .i64 ts, .int .i64 lim] 48 (0, 0)) →
      Calls Try.prog 38 #[.pointer (some ⟨w.heap.size, 0, none⟩), .pointer (some ⟨w.heap.size + 1, 0, none⟩)] W (Says W B X)) :
    Calls Try.prog 12 #[.pointer (some ⟨B.mp, 0, none⟩), .int .i64 s, .agg #[.int .i64 4, .int .i64 i, .int .i64 ep, .slice qa qn qc, .int .i64 fv, .string fk, .int .i64 fs, .int .i64 tv, .string tk, .int .i64 ts, .int .i64 lim], .int .i64 0] w
      (Says w B (answered i X)) := by
  have d1 : decide (s < 1) = false := by simp; omega
  have d2 : decide (64 < s) = false := by simp; omega
  have Hh := Lib.hid h
  have Hchk := Lib.hid hchk
  have Hs := Lib.hid (And.intro hs1 hs2)
  have Hcl := Lib.hid hcl
  clear h hchk hs1 hs2 hcl
  go_enter Try.func12, Try.ntmps12
  go_wp2_with fail
  generalize hW4 : World.alloc _ respO = W4
  have hb4 : Below w.heap.size w W4 := by
    rw [← hW4]
    exact ((((Below.refl _ _).alloc (Nat.le_refl _) _).alloc (by simp) _).alloc (by simp; omega) _).alloc (by simp; omega) _
  have hz4 : W4.heap.size = w.heap.size + 4 := by rw [← hW4]; simp
  have b0 : W4.heap[w.heap.size]? = some (.cells #[.pointer (some ⟨B.mp, 0, none⟩)] 28 (0, 0)) := by
    rw [← hW4, blk_old (by simp; omega), blk_old (by simp; omega), blk_old (by simp)]
    exact blk_at rfl
  have b1 : W4.heap[w.heap.size + 1]? = some (.cells #[.int .i64 s] 3 (0, 0)) := by
    rw [← hW4, blk_old (by simp), blk_old (by simp)]
    exact blk_at (by simp)
  have b2 : W4.heap[w.heap.size + 1 + 1]? = some (.cells #[.int .i64 4, .int .i64 i, .int .i64 ep, .slice qa qn qc, .int .i64 fv, .string fk, .int .i64 fs, .int .i64 tv, .string tk, .int .i64 ts, .int .i64 lim] 48 (0, 0)) := by
    rw [← hW4, blk_old (by simp)]
    exact blk_at (by simp)
  have b3 : W4.heap[w.heap.size + 1 + 1 + 1]? = some respO := by
    rw [← hW4]
    exact blk_at (by simp)
  clear hW4
  refine (Hchk.out _ hb4).mono ?_
  rintro e w1 ⟨rfl, hb1⟩
  have hbw1 := hb4.trans (hb1.mono (by omega))
  have e0 := (hb1.block _ (by omega)).trans b0
  have e1 := (hb1.block _ (by omega)).trans b1
  have e2 := (hb1.block _ (by omega)).trans b2
  have e3 := (hb1.block _ (by omega)).trans b3
  have hz1 := hb1.size
  obtain ⟨v1, v2, v3, v4, v5, v6, v7, r1, r2, r3, r4, r5, r6, r7, hbv, hzv, hlk⟩ := fmap7 w1 (.func (.func 34) #[] #[.pointer (some ⟨w.heap.size, 0, none⟩), .pointer (some ⟨w.heap.size + 1, 0, none⟩), .pointer (some ⟨w.heap.size + 1 + 1, 0, none⟩)])
    (.func (.func 36) #[] #[.pointer (some ⟨w.heap.size, 0, none⟩), .pointer (some ⟨w.heap.size + 1, 0, none⟩), .pointer (some ⟨w.heap.size + 1 + 1, 0, none⟩)])
    (.func (.func 37) #[] #[.pointer (some ⟨w.heap.size, 0, none⟩), .pointer (some ⟨w.heap.size + 1, 0, none⟩), .pointer (some ⟨w.heap.size + 1 + 1, 0, none⟩)])
    (.func (.func 38) #[] #[.pointer (some ⟨w.heap.size, 0, none⟩), .pointer (some ⟨w.heap.size + 1, 0, none⟩)])
    (.func (.func 40) #[] #[.pointer (some ⟨w.heap.size, 0, none⟩), .pointer (some ⟨w.heap.size + 1, 0, none⟩), .pointer (some ⟨w.heap.size + 1 + 1, 0, none⟩)])
    (.func (.func 42) #[] #[.pointer (some ⟨w.heap.size, 0, none⟩), .pointer (some ⟨w.heap.size + 1, 0, none⟩), .pointer (some ⟨w.heap.size + 1 + 1, 0, none⟩)])
    (.func (.func 44) #[] #[.pointer (some ⟨w.heap.size, 0, none⟩)])
  have hmm : (Instr.makeMap 103 none).run Try.prog w1 = .ok (.map (some w1.heap.size)) (w1.alloc (.map #[] 0)) := rfl
  have hl4 := hlk 4 _ ((.tail _ (.tail _ (.tail _ (.head _)))))
  have hbv7 := hbw1.trans (hbv.mono hbw1.size)
  have k0 := (hbv.block _ (by omega)).trans e0
  have k1 := (hbv.block _ (by omega)).trans e1
  have k2 := (hbv.block _ (by omega)).trans e2
  have k3 := (hbv.block _ (by omega)).trans e3
  have a0 := cell_blk k0 0
  have a1 := cell_blk k1 0
  have a2 := cell_blk k2 0
  simp at a0 a1 a2
  have Hk := Lib.hid (And.intro k0 (And.intro k1 (And.intro k2 k3)))
  have Hbv := Lib.hid hbv7
  clear hlk hbv hbv7 hb4 b0 b1 b2 b3 e0 e1 e2 e3 hbw1 hb1 k0 k1 k2 k3
  go_wp2_with fail
  have hask := Hcl.out v7 Hbv.out (Hh.out.below Hbv.out) Hk.out.1 Hk.out.2.1 Hk.out.2.2.1
  clear Hcl
  obtain ⟨S', er, k, ii, re, ep', rows, t, l, o, f, c, n⟩ := X
  refine hask.mono ?_
  rintro e w8 ⟨v, B', rfl, ho, hM, hT, hv⟩
  obtain ⟨oa, oc, rfl, _⟩ := ho.sl fun _ => rfl
  have hz8 := hT.chg.size
  have j2 := (Says.mine Hh.out hT (g := w.heap.size + 1 + 1) (by omega) (by omega)).trans Hk.out.2.2.1
  have j3 := (Says.mine Hh.out hT (g := w.heap.size + 1 + 1 + 1) (by omega) (by omega)).trans Hk.out.2.2.2
  have rf := frozen_blk j3
  have z0 := cell_blk j3 0
  have z1 := cell_blk j3 1
  have z2 := cell_blk j3 2
  have z3 := cell_blk j3 3
  have z4 := cell_blk j3 4
  have z5 := cell_blk j3 5
  have z6 := cell_blk j3 6
  have z7 := cell_blk j3 7
  have z8 := cell_blk j3 8
  have z9 := cell_blk j3 9
  have z10 := cell_blk j3 10
  have y1 := cell_blk j2 1
  simp at z0 z1 z2 z3 z4 z5 z6 z7 z8 z9 z10 y1
  have Hj3 := Lib.hid j3
  have H := Lib.hid (And.intro ho (And.intro hM (And.intro hT hv)))
  have l8 : w.heap.size + 1 + 1 < w8.heap.size := by omega
  have l9 : w.heap.size + 1 + 1 + 1 < w8.heap.size := by omega
  clear hask a0 a1 a2 r1 r2 r3 r4 r5 r6 r7 hmm hl4 j2 j3 ho hM hT hv
  dsimp only [Rsp.at, respL]
  by_cases her : er = 0
  · subst her
    go_wp2_with fail
    refine bodyPost_resp (g := w.heap.size + 1 + 1 + 1) (k := k) (i := i) (er := re) (ep := ep') (rows := .slice oa rows.length oc) (t := t) (l := l) (o := o) (f := f) (c := c) (n := n) rfl rfl ?_ rfl ?_
    · rw [blk_old (by simp; omega)]
      with_reducible exact set11 Hj3.out _ _ _ _ _ _ _ _ _ _ _
    · rw [answered_ok]
      refine Says.wrap Hh.out Hbv.out (l := [w.heap.size + 1 + 1 + 1]) (fun g hg => by rw [List.mem_singleton.1 hg]; omega) H.out.1 H.out.2.1 H.out.2.2.1 H.out.2.2.2 ?_ rfl
      exact chg_up (chg11 _ _ _ _ _ _ _ _ _ _ _) _
  · have hb : (er != 0) = true := by simp [her]
    have Her := Lib.hid her
    clear her
    have h6 : ∀ ob : Obj, (w8.alloc ob).cell? ⟨w.heap.size + 1 + 1, 1, none⟩ = some (.int .i64 i) := fun ob => (((Below.refl w8.heap.size w8).alloc (Nat.le_refl _) ob).cell (p := ⟨w.heap.size + 1 + 1, 1, none⟩) l8).trans y1
    have H6 := Lib.hid h6
    clear h6
    go_wp2_with fail
    refine (ask1_any (w.heap.size + 1 + 1) i er _ (H6.out _) (by simp; omega)).mono ?_
    rintro e w9 ⟨rfl, hb9⟩
    have j9 := (hb9.block _ (by simp; omega)).trans ((blk_old l9).trans Hj3.out)
    have rf9 := frozen_blk j9
    clear z0 z1 z2 z3 z4 z5 z6 z7 z8 z9 z10 y1 rf
    have z0 := cell_blk j9 0
    have z1 := cell_blk j9 1
    have z2 := cell_blk j9 2
    have z3 := cell_blk j9 3
    have z4 := cell_blk j9 4
    have z5 := cell_blk j9 5
    have z6 := cell_blk j9 6
    have z7 := cell_blk j9 7
    have z8 := cell_blk j9 8
    have z9 := cell_blk j9 9
    have z10 := cell_blk j9 10
    simp at z0 z1 z2 z3 z4 z5 z6 z7 z8 z9 z10
    have Hj9 := Lib.hid j9
    have Hb9 := Lib.hid hb9
    clear j9 hb9
    go_wp2_with fail
    refine bodyPost_resp (g := w.heap.size + 1 + 1 + 1) (k := 5) (i := i) (er := er) (ep := 0) (rows := .slice none 0 0) (t := 0) (l := 0) (o := 0) (f := 0) (c := 0) (n := 0) rfl rfl ?_ rfl ?_
    · with_reducible exact set11 Hj9.out _ _ _ _ _ _ _ _ _ _ _
    · rw [answered_bad Her.out]
      refine Says.wrap (r := Rsp.bad i er) (v := .slice none 0 0) Hh.out Hbv.out (l := [w.heap.size + 1 + 1 + 1]) (fun g hg => by rw [List.mem_singleton.1 hg]; omega) (Own.nil _ _ _ _ _) H.out.2.1 H.out.2.2.1 (fun g hg => by cases hg) ?_ rfl
      refine Chg.trans (b := w9) (Chg.trans (b := w8.alloc (.cells #[.int .i64 k, .int .i64 ii, .int .i64 re, .int .i64 ep', .slice oa rows.length oc, .int .i64 t, .int .i64 l, .int .i64 o, .int .i64 f, .int .i64 c, .int .i64 n] 41)) ((Chg.of_below ((Below.refl _ _).alloc (Nat.le_refl _) _)).mono (by simp)) ((Chg.of_below Hb9.out).mono (by simp))) ?_
      with_reducible exact chg11 _ _ _ _ _ _ _ _ _ _ _
set_option maxRecDepth 100000 in
set_option maxHeartbeats 8000000 in
theorem ask_5 {w : World} {B : MB} {S : Mst} (h : IsModel w B S) (s i ep : Int) (qa : Option Addr) (qn qc : Nat) (fv : Int) (fk : ByteArray) (fs tv : Int) (tk : ByteArray) (ts lim : Int) (hs1 : 1 ≤ s) (hs2 : s ≤ 64) (X : Mst × Int × Rsp)
    (hchk : ∀ W, Below w.heap.size w W → Calls Try.prog 32 #[.agg #[.int .i64 5, .int .i64 i, .int .i64 ep, .slice qa qn qc, .int .i64 fv, .string fk, .int .i64 fs, .int .i64 tv, .string tk, .int .i64 ts, .int .i64 lim]] W fun e w' => e = .returned (.int .i64 0) ∧ Below W.heap.size W w')
    (hcl : ∀ W, Below w.heap.size w W → IsModel W B S → W.heap[w.heap.size]? = some (.cells #[.pointer (some ⟨B.mp, 0, none⟩)] 28 (0, 0)) → W.heap[w.heap.size + 1]? = some (.cells #[.int .i64 s] 3 (0, 0)) → W.heap[w.heap.size + 1 + 1]? = some (.cells #[.int .i64 5, .int .i64 i, .int .i64 ep, .slice qa qn qc, .int .i64 fv, .string fk, .int .i64 fs, .int .i64 tv, .string tk, .int .i64 ts, .int .i64 lim] 48 (0, 0)) →
      Calls Try.prog 40 #[.pointer (some ⟨w.heap.size, 0, none⟩), .pointer (some ⟨w.heap.size + 1, 0, none⟩), .pointer (some ⟨w.heap.size + 1 + 1, 0, none⟩)] W (Says W B X)) :
    Calls Try.prog 12 #[.pointer (some ⟨B.mp, 0, none⟩), .int .i64 s, .agg #[.int .i64 5, .int .i64 i, .int .i64 ep, .slice qa qn qc, .int .i64 fv, .string fk, .int .i64 fs, .int .i64 tv, .string tk, .int .i64 ts, .int .i64 lim], .int .i64 0] w
      (Says w B (answered i X)) := by
  have d1 : decide (s < 1) = false := by simp; omega
  have d2 : decide (64 < s) = false := by simp; omega
  have Hh := Lib.hid h
  have Hchk := Lib.hid hchk
  have Hs := Lib.hid (And.intro hs1 hs2)
  have Hcl := Lib.hid hcl
  clear h hchk hs1 hs2 hcl
  go_enter Try.func12, Try.ntmps12
  go_wp2_with fail
  generalize hW4 : World.alloc _ respO = W4
  have hb4 : Below w.heap.size w W4 := by
    rw [← hW4]
    exact ((((Below.refl _ _).alloc (Nat.le_refl _) _).alloc (by simp) _).alloc (by simp; omega) _).alloc (by simp; omega) _
  have hz4 : W4.heap.size = w.heap.size + 4 := by rw [← hW4]; simp
  have b0 : W4.heap[w.heap.size]? = some (.cells #[.pointer (some ⟨B.mp, 0, none⟩)] 28 (0, 0)) := by
    rw [← hW4, blk_old (by simp; omega), blk_old (by simp; omega), blk_old (by simp)]
    exact blk_at rfl
  have b1 : W4.heap[w.heap.size + 1]? = some (.cells #[.int .i64 s] 3 (0, 0)) := by
    rw [← hW4, blk_old (by simp), blk_old (by simp)]
    exact blk_at (by simp)
  have b2 : W4.heap[w.heap.size + 1 + 1]? = some (.cells #[.int .i64 5, .int .i64 i, .int .i64 ep, .slice qa qn qc, .int .i64 fv, .string fk, .int .i64 fs, .int .i64 tv, .string tk, .int .i64 ts, .int .i64 lim] 48 (0, 0)) := by
    rw [← hW4, blk_old (by simp)]
    exact blk_at (by simp)
  have b3 : W4.heap[w.heap.size + 1 + 1 + 1]? = some respO := by
    rw [← hW4]
    exact blk_at (by simp)
  clear hW4
  refine (Hchk.out _ hb4).mono ?_
  rintro e w1 ⟨rfl, hb1⟩
  have hbw1 := hb4.trans (hb1.mono (by omega))
  have e0 := (hb1.block _ (by omega)).trans b0
  have e1 := (hb1.block _ (by omega)).trans b1
  have e2 := (hb1.block _ (by omega)).trans b2
  have e3 := (hb1.block _ (by omega)).trans b3
  have hz1 := hb1.size
  obtain ⟨v1, v2, v3, v4, v5, v6, v7, r1, r2, r3, r4, r5, r6, r7, hbv, hzv, hlk⟩ := fmap7 w1 (.func (.func 34) #[] #[.pointer (some ⟨w.heap.size, 0, none⟩), .pointer (some ⟨w.heap.size + 1, 0, none⟩), .pointer (some ⟨w.heap.size + 1 + 1, 0, none⟩)])
    (.func (.func 36) #[] #[.pointer (some ⟨w.heap.size, 0, none⟩), .pointer (some ⟨w.heap.size + 1, 0, none⟩), .pointer (some ⟨w.heap.size + 1 + 1, 0, none⟩)])
    (.func (.func 37) #[] #[.pointer (some ⟨w.heap.size, 0, none⟩), .pointer (some ⟨w.heap.size + 1, 0, none⟩), .pointer (some ⟨w.heap.size + 1 + 1, 0, none⟩)])
    (.func (.func 38) #[] #[.pointer (some ⟨w.heap.size, 0, none⟩), .pointer (some ⟨w.heap.size + 1, 0, none⟩)])
    (.func (.func 40) #[] #[.pointer (some ⟨w.heap.size, 0, none⟩), .pointer (some ⟨w.heap.size + 1, 0, none⟩), .pointer (some ⟨w.heap.size + 1 + 1, 0, none⟩)])
    (.func (.func 42) #[] #[.pointer (some ⟨w.heap.size, 0, none⟩), .pointer (some ⟨w.heap.size + 1, 0, none⟩), .pointer (some ⟨w.heap.size + 1 + 1, 0, none⟩)])
    (.func (.func 44) #[] #[.pointer (some ⟨w.heap.size, 0, none⟩)])
  have hmm : (Instr.makeMap 103 none).run Try.prog w1 = .ok (.map (some w1.heap.size)) (w1.alloc (.map #[] 0)) := rfl
  have hl4 := hlk 5 _ ((.tail _ (.tail _ (.tail _ (.tail _ (.head _))))))
  have hbv7 := hbw1.trans (hbv.mono hbw1.size)
  have k0 := (hbv.block _ (by omega)).trans e0
  have k1 := (hbv.block _ (by omega)).trans e1
  have k2 := (hbv.block _ (by omega)).trans e2
  have k3 := (hbv.block _ (by omega)).trans e3
  have a0 := cell_blk k0 0
  have a1 := cell_blk k1 0
  have a2 := cell_blk k2 0
  simp at a0 a1 a2
  have Hk := Lib.hid (And.intro k0 (And.intro k1 (And.intro k2 k3)))
  have Hbv := Lib.hid hbv7
  clear hlk hbv hbv7 hb4 b0 b1 b2 b3 e0 e1 e2 e3 hbw1 hb1 k0 k1 k2 k3
  go_wp2_with fail
  have hask := Hcl.out v7 Hbv.out (Hh.out.below Hbv.out) Hk.out.1 Hk.out.2.1 Hk.out.2.2.1
  clear Hcl
  obtain ⟨S', er, k, ii, re, ep', rows, t, l, o, f, c, n⟩ := X
  refine hask.mono ?_
  rintro e w8 ⟨v, B', rfl, ho, hM, hT, hv⟩
  obtain ⟨oa, oc, rfl, _⟩ := ho.sl fun _ => rfl
  have hz8 := hT.chg.size
  have j2 := (Says.mine Hh.out hT (g := w.heap.size + 1 + 1) (by omega) (by omega)).trans Hk.out.2.2.1
  have j3 := (Says.mine Hh.out hT (g := w.heap.size + 1 + 1 + 1) (by omega) (by omega)).trans Hk.out.2.2.2
  have rf := frozen_blk j3
  have z0 := cell_blk j3 0
  have z1 := cell_blk j3 1
  have z2 := cell_blk j3 2
  have z3 := cell_blk j3 3
  have z4 := cell_blk j3 4
  have z5 := cell_blk j3 5
  have z6 := cell_blk j3 6
  have z7 := cell_blk j3 7
  have z8 := cell_blk j3 8
  have z9 := cell_blk j3 9
  have z10 := cell_blk j3 10
  have y1 := cell_blk j2 1
  simp at z0 z1 z2 z3 z4 z5 z6 z7 z8 z9 z10 y1
  have Hj3 := Lib.hid j3
  have H := Lib.hid (And.intro ho (And.intro hM (And.intro hT hv)))
  have l8 : w.heap.size + 1 + 1 < w8.heap.size := by omega
  have l9 : w.heap.size + 1 + 1 + 1 < w8.heap.size := by omega
  clear hask a0 a1 a2 r1 r2 r3 r4 r5 r6 r7 hmm hl4 j2 j3 ho hM hT hv
  dsimp only [Rsp.at, respL]
  by_cases her : er = 0
  · subst her
    go_wp2_with fail
    refine bodyPost_resp (g := w.heap.size + 1 + 1 + 1) (k := k) (i := i) (er := re) (ep := ep') (rows := .slice oa rows.length oc) (t := t) (l := l) (o := o) (f := f) (c := c) (n := n) rfl rfl ?_ rfl ?_
    · rw [blk_old (by simp; omega)]
      with_reducible exact set11 Hj3.out _ _ _ _ _ _ _ _ _ _ _
    · rw [answered_ok]
      refine Says.wrap Hh.out Hbv.out (l := [w.heap.size + 1 + 1 + 1]) (fun g hg => by rw [List.mem_singleton.1 hg]; omega) H.out.1 H.out.2.1 H.out.2.2.1 H.out.2.2.2 ?_ rfl
      exact chg_up (chg11 _ _ _ _ _ _ _ _ _ _ _) _
  · have hb : (er != 0) = true := by simp [her]
    have Her := Lib.hid her
    clear her
    have h6 : ∀ ob : Obj, (w8.alloc ob).cell? ⟨w.heap.size + 1 + 1, 1, none⟩ = some (.int .i64 i) := fun ob => (((Below.refl w8.heap.size w8).alloc (Nat.le_refl _) ob).cell (p := ⟨w.heap.size + 1 + 1, 1, none⟩) l8).trans y1
    have H6 := Lib.hid h6
    clear h6
    go_wp2_with fail
    refine (ask1_any (w.heap.size + 1 + 1) i er _ (H6.out _) (by simp; omega)).mono ?_
    rintro e w9 ⟨rfl, hb9⟩
    have j9 := (hb9.block _ (by simp; omega)).trans ((blk_old l9).trans Hj3.out)
    have rf9 := frozen_blk j9
    clear z0 z1 z2 z3 z4 z5 z6 z7 z8 z9 z10 y1 rf
    have z0 := cell_blk j9 0
    have z1 := cell_blk j9 1
    have z2 := cell_blk j9 2
    have z3 := cell_blk j9 3
    have z4 := cell_blk j9 4
    have z5 := cell_blk j9 5
    have z6 := cell_blk j9 6
    have z7 := cell_blk j9 7
    have z8 := cell_blk j9 8
    have z9 := cell_blk j9 9
    have z10 := cell_blk j9 10
    simp at z0 z1 z2 z3 z4 z5 z6 z7 z8 z9 z10
    have Hj9 := Lib.hid j9
    have Hb9 := Lib.hid hb9
    clear j9 hb9
    go_wp2_with fail
    refine bodyPost_resp (g := w.heap.size + 1 + 1 + 1) (k := 5) (i := i) (er := er) (ep := 0) (rows := .slice none 0 0) (t := 0) (l := 0) (o := 0) (f := 0) (c := 0) (n := 0) rfl rfl ?_ rfl ?_
    · with_reducible exact set11 Hj9.out _ _ _ _ _ _ _ _ _ _ _
    · rw [answered_bad Her.out]
      refine Says.wrap (r := Rsp.bad i er) (v := .slice none 0 0) Hh.out Hbv.out (l := [w.heap.size + 1 + 1 + 1]) (fun g hg => by rw [List.mem_singleton.1 hg]; omega) (Own.nil _ _ _ _ _) H.out.2.1 H.out.2.2.1 (fun g hg => by cases hg) ?_ rfl
      refine Chg.trans (b := w9) (Chg.trans (b := w8.alloc (.cells #[.int .i64 k, .int .i64 ii, .int .i64 re, .int .i64 ep', .slice oa rows.length oc, .int .i64 t, .int .i64 l, .int .i64 o, .int .i64 f, .int .i64 c, .int .i64 n] 41)) ((Chg.of_below ((Below.refl _ _).alloc (Nat.le_refl _) _)).mono (by simp)) ((Chg.of_below Hb9.out).mono (by simp))) ?_
      with_reducible exact chg11 _ _ _ _ _ _ _ _ _ _ _
set_option maxRecDepth 100000 in
set_option maxHeartbeats 8000000 in
theorem ask_6 {w : World} {B : MB} {S : Mst} (h : IsModel w B S) (s i ep : Int) (qa : Option Addr) (qn qc : Nat) (fv : Int) (fk : ByteArray) (fs tv : Int) (tk : ByteArray) (ts lim : Int) (hs1 : 1 ≤ s) (hs2 : s ≤ 64) (X : Mst × Int × Rsp)
    (hchk : ∀ W, Below w.heap.size w W → Calls Try.prog 32 #[.agg #[.int .i64 6, .int .i64 i, .int .i64 ep, .slice qa qn qc, .int .i64 fv, .string fk, .int .i64 fs, .int .i64 tv, .string tk, .int .i64 ts, .int .i64 lim]] W fun e w' => e = .returned (.int .i64 0) ∧ Below W.heap.size W w')
    (hcl : ∀ W, Below w.heap.size w W → IsModel W B S → W.heap[w.heap.size]? = some (.cells #[.pointer (some ⟨B.mp, 0, none⟩)] 28 (0, 0)) → W.heap[w.heap.size + 1]? = some (.cells #[.int .i64 s] 3 (0, 0)) → W.heap[w.heap.size + 1 + 1]? = some (.cells #[.int .i64 6, .int .i64 i, .int .i64 ep, .slice qa qn qc, .int .i64 fv, .string fk, .int .i64 fs, .int .i64 tv, .string tk, .int .i64 ts, .int .i64 lim] 48 (0, 0)) →
      Calls Try.prog 42 #[.pointer (some ⟨w.heap.size, 0, none⟩), .pointer (some ⟨w.heap.size + 1, 0, none⟩), .pointer (some ⟨w.heap.size + 1 + 1, 0, none⟩)] W (Says W B X)) :
    Calls Try.prog 12 #[.pointer (some ⟨B.mp, 0, none⟩), .int .i64 s, .agg #[.int .i64 6, .int .i64 i, .int .i64 ep, .slice qa qn qc, .int .i64 fv, .string fk, .int .i64 fs, .int .i64 tv, .string tk, .int .i64 ts, .int .i64 lim], .int .i64 0] w
      (Says w B (answered i X)) := by
  have d1 : decide (s < 1) = false := by simp; omega
  have d2 : decide (64 < s) = false := by simp; omega
  have Hh := Lib.hid h
  have Hchk := Lib.hid hchk
  have Hs := Lib.hid (And.intro hs1 hs2)
  have Hcl := Lib.hid hcl
  clear h hchk hs1 hs2 hcl
  go_enter Try.func12, Try.ntmps12
  go_wp2_with fail
  generalize hW4 : World.alloc _ respO = W4
  have hb4 : Below w.heap.size w W4 := by
    rw [← hW4]
    exact ((((Below.refl _ _).alloc (Nat.le_refl _) _).alloc (by simp) _).alloc (by simp; omega) _).alloc (by simp; omega) _
  have hz4 : W4.heap.size = w.heap.size + 4 := by rw [← hW4]; simp
  have b0 : W4.heap[w.heap.size]? = some (.cells #[.pointer (some ⟨B.mp, 0, none⟩)] 28 (0, 0)) := by
    rw [← hW4, blk_old (by simp; omega), blk_old (by simp; omega), blk_old (by simp)]
    exact blk_at rfl
  have b1 : W4.heap[w.heap.size + 1]? = some (.cells #[.int .i64 s] 3 (0, 0)) := by
    rw [← hW4, blk_old (by simp), blk_old (by simp)]
    exact blk_at (by simp)
  have b2 : W4.heap[w.heap.size + 1 + 1]? = some (.cells #[.int .i64 6, .int .i64 i, .int .i64 ep, .slice qa qn qc, .int .i64 fv, .string fk, .int .i64 fs, .int .i64 tv, .string tk, .int .i64 ts, .int .i64 lim] 48 (0, 0)) := by
    rw [← hW4, blk_old (by simp)]
    exact blk_at (by simp)
  have b3 : W4.heap[w.heap.size + 1 + 1 + 1]? = some respO := by
    rw [← hW4]
    exact blk_at (by simp)
  clear hW4
  refine (Hchk.out _ hb4).mono ?_
  rintro e w1 ⟨rfl, hb1⟩
  have hbw1 := hb4.trans (hb1.mono (by omega))
  have e0 := (hb1.block _ (by omega)).trans b0
  have e1 := (hb1.block _ (by omega)).trans b1
  have e2 := (hb1.block _ (by omega)).trans b2
  have e3 := (hb1.block _ (by omega)).trans b3
  have hz1 := hb1.size
  obtain ⟨v1, v2, v3, v4, v5, v6, v7, r1, r2, r3, r4, r5, r6, r7, hbv, hzv, hlk⟩ := fmap7 w1 (.func (.func 34) #[] #[.pointer (some ⟨w.heap.size, 0, none⟩), .pointer (some ⟨w.heap.size + 1, 0, none⟩), .pointer (some ⟨w.heap.size + 1 + 1, 0, none⟩)])
    (.func (.func 36) #[] #[.pointer (some ⟨w.heap.size, 0, none⟩), .pointer (some ⟨w.heap.size + 1, 0, none⟩), .pointer (some ⟨w.heap.size + 1 + 1, 0, none⟩)])
    (.func (.func 37) #[] #[.pointer (some ⟨w.heap.size, 0, none⟩), .pointer (some ⟨w.heap.size + 1, 0, none⟩), .pointer (some ⟨w.heap.size + 1 + 1, 0, none⟩)])
    (.func (.func 38) #[] #[.pointer (some ⟨w.heap.size, 0, none⟩), .pointer (some ⟨w.heap.size + 1, 0, none⟩)])
    (.func (.func 40) #[] #[.pointer (some ⟨w.heap.size, 0, none⟩), .pointer (some ⟨w.heap.size + 1, 0, none⟩), .pointer (some ⟨w.heap.size + 1 + 1, 0, none⟩)])
    (.func (.func 42) #[] #[.pointer (some ⟨w.heap.size, 0, none⟩), .pointer (some ⟨w.heap.size + 1, 0, none⟩), .pointer (some ⟨w.heap.size + 1 + 1, 0, none⟩)])
    (.func (.func 44) #[] #[.pointer (some ⟨w.heap.size, 0, none⟩)])
  have hmm : (Instr.makeMap 103 none).run Try.prog w1 = .ok (.map (some w1.heap.size)) (w1.alloc (.map #[] 0)) := rfl
  have hl4 := hlk 6 _ ((.tail _ (.tail _ (.tail _ (.tail _ (.tail _ (.head _)))))))
  have hbv7 := hbw1.trans (hbv.mono hbw1.size)
  have k0 := (hbv.block _ (by omega)).trans e0
  have k1 := (hbv.block _ (by omega)).trans e1
  have k2 := (hbv.block _ (by omega)).trans e2
  have k3 := (hbv.block _ (by omega)).trans e3
  have a0 := cell_blk k0 0
  have a1 := cell_blk k1 0
  have a2 := cell_blk k2 0
  simp at a0 a1 a2
  have Hk := Lib.hid (And.intro k0 (And.intro k1 (And.intro k2 k3)))
  have Hbv := Lib.hid hbv7
  clear hlk hbv hbv7 hb4 b0 b1 b2 b3 e0 e1 e2 e3 hbw1 hb1 k0 k1 k2 k3
  go_wp2_with fail
  have hask := Hcl.out v7 Hbv.out (Hh.out.below Hbv.out) Hk.out.1 Hk.out.2.1 Hk.out.2.2.1
  clear Hcl
  obtain ⟨S', er, k, ii, re, ep', rows, t, l, o, f, c, n⟩ := X
  refine hask.mono ?_
  rintro e w8 ⟨v, B', rfl, ho, hM, hT, hv⟩
  obtain ⟨oa, oc, rfl, _⟩ := ho.sl fun _ => rfl
  have hz8 := hT.chg.size
  have j2 := (Says.mine Hh.out hT (g := w.heap.size + 1 + 1) (by omega) (by omega)).trans Hk.out.2.2.1
  have j3 := (Says.mine Hh.out hT (g := w.heap.size + 1 + 1 + 1) (by omega) (by omega)).trans Hk.out.2.2.2
  have rf := frozen_blk j3
  have z0 := cell_blk j3 0
  have z1 := cell_blk j3 1
  have z2 := cell_blk j3 2
  have z3 := cell_blk j3 3
  have z4 := cell_blk j3 4
  have z5 := cell_blk j3 5
  have z6 := cell_blk j3 6
  have z7 := cell_blk j3 7
  have z8 := cell_blk j3 8
  have z9 := cell_blk j3 9
  have z10 := cell_blk j3 10
  have y1 := cell_blk j2 1
  simp at z0 z1 z2 z3 z4 z5 z6 z7 z8 z9 z10 y1
  have Hj3 := Lib.hid j3
  have H := Lib.hid (And.intro ho (And.intro hM (And.intro hT hv)))
  have l8 : w.heap.size + 1 + 1 < w8.heap.size := by omega
  have l9 : w.heap.size + 1 + 1 + 1 < w8.heap.size := by omega
  clear hask a0 a1 a2 r1 r2 r3 r4 r5 r6 r7 hmm hl4 j2 j3 ho hM hT hv
  dsimp only [Rsp.at, respL]
  by_cases her : er = 0
  · subst her
    go_wp2_with fail
    refine bodyPost_resp (g := w.heap.size + 1 + 1 + 1) (k := k) (i := i) (er := re) (ep := ep') (rows := .slice oa rows.length oc) (t := t) (l := l) (o := o) (f := f) (c := c) (n := n) rfl rfl ?_ rfl ?_
    · rw [blk_old (by simp; omega)]
      with_reducible exact set11 Hj3.out _ _ _ _ _ _ _ _ _ _ _
    · rw [answered_ok]
      refine Says.wrap Hh.out Hbv.out (l := [w.heap.size + 1 + 1 + 1]) (fun g hg => by rw [List.mem_singleton.1 hg]; omega) H.out.1 H.out.2.1 H.out.2.2.1 H.out.2.2.2 ?_ rfl
      exact chg_up (chg11 _ _ _ _ _ _ _ _ _ _ _) _
  · have hb : (er != 0) = true := by simp [her]
    have Her := Lib.hid her
    clear her
    have h6 : ∀ ob : Obj, (w8.alloc ob).cell? ⟨w.heap.size + 1 + 1, 1, none⟩ = some (.int .i64 i) := fun ob => (((Below.refl w8.heap.size w8).alloc (Nat.le_refl _) ob).cell (p := ⟨w.heap.size + 1 + 1, 1, none⟩) l8).trans y1
    have H6 := Lib.hid h6
    clear h6
    go_wp2_with fail
    refine (ask1_any (w.heap.size + 1 + 1) i er _ (H6.out _) (by simp; omega)).mono ?_
    rintro e w9 ⟨rfl, hb9⟩
    have j9 := (hb9.block _ (by simp; omega)).trans ((blk_old l9).trans Hj3.out)
    have rf9 := frozen_blk j9
    clear z0 z1 z2 z3 z4 z5 z6 z7 z8 z9 z10 y1 rf
    have z0 := cell_blk j9 0
    have z1 := cell_blk j9 1
    have z2 := cell_blk j9 2
    have z3 := cell_blk j9 3
    have z4 := cell_blk j9 4
    have z5 := cell_blk j9 5
    have z6 := cell_blk j9 6
    have z7 := cell_blk j9 7
    have z8 := cell_blk j9 8
    have z9 := cell_blk j9 9
    have z10 := cell_blk j9 10
    simp at z0 z1 z2 z3 z4 z5 z6 z7 z8 z9 z10
    have Hj9 := Lib.hid j9
    have Hb9 := Lib.hid hb9
    clear j9 hb9
    go_wp2_with fail
    refine bodyPost_resp (g := w.heap.size + 1 + 1 + 1) (k := 5) (i := i) (er := er) (ep := 0) (rows := .slice none 0 0) (t := 0) (l := 0) (o := 0) (f := 0) (c := 0) (n := 0) rfl rfl ?_ rfl ?_
    · with_reducible exact set11 Hj9.out _ _ _ _ _ _ _ _ _ _ _
    · rw [answered_bad Her.out]
      refine Says.wrap (r := Rsp.bad i er) (v := .slice none 0 0) Hh.out Hbv.out (l := [w.heap.size + 1 + 1 + 1]) (fun g hg => by rw [List.mem_singleton.1 hg]; omega) (Own.nil _ _ _ _ _) H.out.2.1 H.out.2.2.1 (fun g hg => by cases hg) ?_ rfl
      refine Chg.trans (b := w9) (Chg.trans (b := w8.alloc (.cells #[.int .i64 k, .int .i64 ii, .int .i64 re, .int .i64 ep', .slice oa rows.length oc, .int .i64 t, .int .i64 l, .int .i64 o, .int .i64 f, .int .i64 c, .int .i64 n] 41)) ((Chg.of_below ((Below.refl _ _).alloc (Nat.le_refl _) _)).mono (by simp)) ((Chg.of_below Hb9.out).mono (by simp))) ?_
      with_reducible exact chg11 _ _ _ _ _ _ _ _ _ _ _
set_option maxRecDepth 100000 in
set_option maxHeartbeats 8000000 in
theorem ask_7 {w : World} {B : MB} {S : Mst} (h : IsModel w B S) (s i ep : Int) (qa : Option Addr) (qn qc : Nat) (fv : Int) (fk : ByteArray) (fs tv : Int) (tk : ByteArray) (ts lim : Int) (hs1 : 1 ≤ s) (hs2 : s ≤ 64) (X : Mst × Int × Rsp)
    (hchk : ∀ W, Below w.heap.size w W → Calls Try.prog 32 #[.agg #[.int .i64 7, .int .i64 i, .int .i64 ep, .slice qa qn qc, .int .i64 fv, .string fk, .int .i64 fs, .int .i64 tv, .string tk, .int .i64 ts, .int .i64 lim]] W fun e w' => e = .returned (.int .i64 0) ∧ Below W.heap.size W w')
    (hcl : ∀ W, Below w.heap.size w W → IsModel W B S → W.heap[w.heap.size]? = some (.cells #[.pointer (some ⟨B.mp, 0, none⟩)] 28 (0, 0)) → W.heap[w.heap.size + 1]? = some (.cells #[.int .i64 s] 3 (0, 0)) → W.heap[w.heap.size + 1 + 1]? = some (.cells #[.int .i64 7, .int .i64 i, .int .i64 ep, .slice qa qn qc, .int .i64 fv, .string fk, .int .i64 fs, .int .i64 tv, .string tk, .int .i64 ts, .int .i64 lim] 48 (0, 0)) →
      Calls Try.prog 44 #[.pointer (some ⟨w.heap.size, 0, none⟩)] W (Says W B X)) :
    Calls Try.prog 12 #[.pointer (some ⟨B.mp, 0, none⟩), .int .i64 s, .agg #[.int .i64 7, .int .i64 i, .int .i64 ep, .slice qa qn qc, .int .i64 fv, .string fk, .int .i64 fs, .int .i64 tv, .string tk, .int .i64 ts, .int .i64 lim], .int .i64 0] w
      (Says w B (answered i X)) := by
  have d1 : decide (s < 1) = false := by simp; omega
  have d2 : decide (64 < s) = false := by simp; omega
  have Hh := Lib.hid h
  have Hchk := Lib.hid hchk
  have Hs := Lib.hid (And.intro hs1 hs2)
  have Hcl := Lib.hid hcl
  clear h hchk hs1 hs2 hcl
  go_enter Try.func12, Try.ntmps12
  go_wp2_with fail
  generalize hW4 : World.alloc _ respO = W4
  have hb4 : Below w.heap.size w W4 := by
    rw [← hW4]
    exact ((((Below.refl _ _).alloc (Nat.le_refl _) _).alloc (by simp) _).alloc (by simp; omega) _).alloc (by simp; omega) _
  have hz4 : W4.heap.size = w.heap.size + 4 := by rw [← hW4]; simp
  have b0 : W4.heap[w.heap.size]? = some (.cells #[.pointer (some ⟨B.mp, 0, none⟩)] 28 (0, 0)) := by
    rw [← hW4, blk_old (by simp; omega), blk_old (by simp; omega), blk_old (by simp)]
    exact blk_at rfl
  have b1 : W4.heap[w.heap.size + 1]? = some (.cells #[.int .i64 s] 3 (0, 0)) := by
    rw [← hW4, blk_old (by simp), blk_old (by simp)]
    exact blk_at (by simp)
  have b2 : W4.heap[w.heap.size + 1 + 1]? = some (.cells #[.int .i64 7, .int .i64 i, .int .i64 ep, .slice qa qn qc, .int .i64 fv, .string fk, .int .i64 fs, .int .i64 tv, .string tk, .int .i64 ts, .int .i64 lim] 48 (0, 0)) := by
    rw [← hW4, blk_old (by simp)]
    exact blk_at (by simp)
  have b3 : W4.heap[w.heap.size + 1 + 1 + 1]? = some respO := by
    rw [← hW4]
    exact blk_at (by simp)
  clear hW4
  refine (Hchk.out _ hb4).mono ?_
  rintro e w1 ⟨rfl, hb1⟩
  have hbw1 := hb4.trans (hb1.mono (by omega))
  have e0 := (hb1.block _ (by omega)).trans b0
  have e1 := (hb1.block _ (by omega)).trans b1
  have e2 := (hb1.block _ (by omega)).trans b2
  have e3 := (hb1.block _ (by omega)).trans b3
  have hz1 := hb1.size
  obtain ⟨v1, v2, v3, v4, v5, v6, v7, r1, r2, r3, r4, r5, r6, r7, hbv, hzv, hlk⟩ := fmap7 w1 (.func (.func 34) #[] #[.pointer (some ⟨w.heap.size, 0, none⟩), .pointer (some ⟨w.heap.size + 1, 0, none⟩), .pointer (some ⟨w.heap.size + 1 + 1, 0, none⟩)])
    (.func (.func 36) #[] #[.pointer (some ⟨w.heap.size, 0, none⟩), .pointer (some ⟨w.heap.size + 1, 0, none⟩), .pointer (some ⟨w.heap.size + 1 + 1, 0, none⟩)])
    (.func (.func 37) #[] #[.pointer (some ⟨w.heap.size, 0, none⟩), .pointer (some ⟨w.heap.size + 1, 0, none⟩), .pointer (some ⟨w.heap.size + 1 + 1, 0, none⟩)])
    (.func (.func 38) #[] #[.pointer (some ⟨w.heap.size, 0, none⟩), .pointer (some ⟨w.heap.size + 1, 0, none⟩)])
    (.func (.func 40) #[] #[.pointer (some ⟨w.heap.size, 0, none⟩), .pointer (some ⟨w.heap.size + 1, 0, none⟩), .pointer (some ⟨w.heap.size + 1 + 1, 0, none⟩)])
    (.func (.func 42) #[] #[.pointer (some ⟨w.heap.size, 0, none⟩), .pointer (some ⟨w.heap.size + 1, 0, none⟩), .pointer (some ⟨w.heap.size + 1 + 1, 0, none⟩)])
    (.func (.func 44) #[] #[.pointer (some ⟨w.heap.size, 0, none⟩)])
  have hmm : (Instr.makeMap 103 none).run Try.prog w1 = .ok (.map (some w1.heap.size)) (w1.alloc (.map #[] 0)) := rfl
  have hl4 := hlk 7 _ ((.tail _ (.tail _ (.tail _ (.tail _ (.tail _ (.tail _ (.head _))))))))
  have hbv7 := hbw1.trans (hbv.mono hbw1.size)
  have k0 := (hbv.block _ (by omega)).trans e0
  have k1 := (hbv.block _ (by omega)).trans e1
  have k2 := (hbv.block _ (by omega)).trans e2
  have k3 := (hbv.block _ (by omega)).trans e3
  have a0 := cell_blk k0 0
  have a1 := cell_blk k1 0
  have a2 := cell_blk k2 0
  simp at a0 a1 a2
  have Hk := Lib.hid (And.intro k0 (And.intro k1 (And.intro k2 k3)))
  have Hbv := Lib.hid hbv7
  clear hlk hbv hbv7 hb4 b0 b1 b2 b3 e0 e1 e2 e3 hbw1 hb1 k0 k1 k2 k3
  go_wp2_with fail
  have hask := Hcl.out v7 Hbv.out (Hh.out.below Hbv.out) Hk.out.1 Hk.out.2.1 Hk.out.2.2.1
  clear Hcl
  obtain ⟨S', er, k, ii, re, ep', rows, t, l, o, f, c, n⟩ := X
  refine hask.mono ?_
  rintro e w8 ⟨v, B', rfl, ho, hM, hT, hv⟩
  obtain ⟨oa, oc, rfl, _⟩ := ho.sl fun _ => rfl
  have hz8 := hT.chg.size
  have j2 := (Says.mine Hh.out hT (g := w.heap.size + 1 + 1) (by omega) (by omega)).trans Hk.out.2.2.1
  have j3 := (Says.mine Hh.out hT (g := w.heap.size + 1 + 1 + 1) (by omega) (by omega)).trans Hk.out.2.2.2
  have rf := frozen_blk j3
  have z0 := cell_blk j3 0
  have z1 := cell_blk j3 1
  have z2 := cell_blk j3 2
  have z3 := cell_blk j3 3
  have z4 := cell_blk j3 4
  have z5 := cell_blk j3 5
  have z6 := cell_blk j3 6
  have z7 := cell_blk j3 7
  have z8 := cell_blk j3 8
  have z9 := cell_blk j3 9
  have z10 := cell_blk j3 10
  have y1 := cell_blk j2 1
  simp at z0 z1 z2 z3 z4 z5 z6 z7 z8 z9 z10 y1
  have Hj3 := Lib.hid j3
  have H := Lib.hid (And.intro ho (And.intro hM (And.intro hT hv)))
  have l8 : w.heap.size + 1 + 1 < w8.heap.size := by omega
  have l9 : w.heap.size + 1 + 1 + 1 < w8.heap.size := by omega
  clear hask a0 a1 a2 r1 r2 r3 r4 r5 r6 r7 hmm hl4 j2 j3 ho hM hT hv
  dsimp only [Rsp.at, respL]
  by_cases her : er = 0
  · subst her
    go_wp2_with fail
    refine bodyPost_resp (g := w.heap.size + 1 + 1 + 1) (k := k) (i := i) (er := re) (ep := ep') (rows := .slice oa rows.length oc) (t := t) (l := l) (o := o) (f := f) (c := c) (n := n) rfl rfl ?_ rfl ?_
    · rw [blk_old (by simp; omega)]
      with_reducible exact set11 Hj3.out _ _ _ _ _ _ _ _ _ _ _
    · rw [answered_ok]
      refine Says.wrap Hh.out Hbv.out (l := [w.heap.size + 1 + 1 + 1]) (fun g hg => by rw [List.mem_singleton.1 hg]; omega) H.out.1 H.out.2.1 H.out.2.2.1 H.out.2.2.2 ?_ rfl
      exact chg_up (chg11 _ _ _ _ _ _ _ _ _ _ _) _
  · have hb : (er != 0) = true := by simp [her]
    have Her := Lib.hid her
    clear her
    have h6 : ∀ ob : Obj, (w8.alloc ob).cell? ⟨w.heap.size + 1 + 1, 1, none⟩ = some (.int .i64 i) := fun ob => (((Below.refl w8.heap.size w8).alloc (Nat.le_refl _) ob).cell (p := ⟨w.heap.size + 1 + 1, 1, none⟩) l8).trans y1
    have H6 := Lib.hid h6
    clear h6
    go_wp2_with fail
    refine (ask1_any (w.heap.size + 1 + 1) i er _ (H6.out _) (by simp; omega)).mono ?_
    rintro e w9 ⟨rfl, hb9⟩
    have j9 := (hb9.block _ (by simp; omega)).trans ((blk_old l9).trans Hj3.out)
    have rf9 := frozen_blk j9
    clear z0 z1 z2 z3 z4 z5 z6 z7 z8 z9 z10 y1 rf
    have z0 := cell_blk j9 0
    have z1 := cell_blk j9 1
    have z2 := cell_blk j9 2
    have z3 := cell_blk j9 3
    have z4 := cell_blk j9 4
    have z5 := cell_blk j9 5
    have z6 := cell_blk j9 6
    have z7 := cell_blk j9 7
    have z8 := cell_blk j9 8
    have z9 := cell_blk j9 9
    have z10 := cell_blk j9 10
    simp at z0 z1 z2 z3 z4 z5 z6 z7 z8 z9 z10
    have Hj9 := Lib.hid j9
    have Hb9 := Lib.hid hb9
    clear j9 hb9
    go_wp2_with fail
    refine bodyPost_resp (g := w.heap.size + 1 + 1 + 1) (k := 5) (i := i) (er := er) (ep := 0) (rows := .slice none 0 0) (t := 0) (l := 0) (o := 0) (f := 0) (c := 0) (n := 0) rfl rfl ?_ rfl ?_
    · with_reducible exact set11 Hj9.out _ _ _ _ _ _ _ _ _ _ _
    · rw [answered_bad Her.out]
      refine Says.wrap (r := Rsp.bad i er) (v := .slice none 0 0) Hh.out Hbv.out (l := [w.heap.size + 1 + 1 + 1]) (fun g hg => by rw [List.mem_singleton.1 hg]; omega) (Own.nil _ _ _ _ _) H.out.2.1 H.out.2.2.1 (fun g hg => by cases hg) ?_ rfl
      refine Chg.trans (b := w9) (Chg.trans (b := w8.alloc (.cells #[.int .i64 k, .int .i64 ii, .int .i64 re, .int .i64 ep', .slice oa rows.length oc, .int .i64 t, .int .i64 l, .int .i64 o, .int .i64 f, .int .i64 c, .int .i64 n] 41)) ((Chg.of_below ((Below.refl _ _).alloc (Nat.le_refl _) _)).mono (by simp)) ((Chg.of_below Hb9.out).mono (by simp))) ?_
      with_reducible exact chg11 _ _ _ _ _ _ _ _ _ _ _
end Go.Proofs.Ytaicecnfodhlcaa
