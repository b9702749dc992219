/- Ask's closures: each over the contract of what it calls. -/
import Derived.Test.YtaicecnfodhlcaaJ14
import Derived.Test.YtaicecnfodhlcaaJ03
import Derived.Test.YtaicecnfodhlcaaJ04
set_option linter.unusedVariables false
set_option linter.unusedSimpArgs false
namespace Go.Proofs.Ytaicecnfodhlcaa
open Go.RowKit Go.Deep

set_option maxRecDepth 100000 in
set_option maxHeartbeats 2000000 in
theorem clos2_any {w : World} {B : MB} {S : Mst} (h : IsModel w B S) (g4 g5 g6 : Nat) (s : Int) (k i ep : Int) (qa : Option Addr) (qn qc : Nat) (fv : Int) (fk : ByteArray) (fs tv : Int) (tk : ByteArray) (ts lim : Int) (X : Mst × Int × Rsp)
    (h4 : w.heap[g4]? = some (.cells #[.pointer (some ⟨B.mp, 0, none⟩)] 28 (0, 0))) (h5 : w.heap[g5]? = some (.cells #[.int .i64 s] 3 (0, 0))) (h6 : w.heap[g6]? = some (.cells #[.int .i64 k, .int .i64 i, .int .i64 ep, .slice qa qn qc, .int .i64 fv, .string fk, .int .i64 fs, .int .i64 tv, .string tk, .int .i64 ts, .int .i64 lim] 48 (0, 0)))
    (hin : ∀ W, Below w.heap.size w W → Calls Try.prog 35 #[.pointer (some ⟨B.mp, 0, none⟩), .int .i64 s, .agg #[.int .i64 k, .int .i64 i, .int .i64 ep, .slice qa qn qc, .int .i64 fv, .string fk, .int .i64 fs, .int .i64 tv, .string tk, .int .i64 ts, .int .i64 lim]] W (Says W B X)) :
    Calls Try.prog 34 #[.pointer (some ⟨g4, 0, none⟩), .pointer (some ⟨g5, 0, none⟩), .pointer (some ⟨g6, 0, none⟩)] w (Says w B X) := by
  have hb1 : Below w.heap.size w (w.alloc respO) := (Below.refl _ _).alloc (Nat.le_refl _) _
  have hp := hin _ hb1
  have hf1 : (w.alloc respO).heap[w.heap.size]? = some respO := blk_at rfl
  have hz1 : (w.alloc respO).heap.size = w.heap.size + 1 := by simp
  have l4 := lt_of_block h4
  have l5 := lt_of_block h5
  have l6 := lt_of_block h6
  have a4 := cell_blk h4 0
  have a5 := cell_blk h5 0
  have y0 := cell_blk h6 0
  have y1 := cell_blk h6 1
  have y2 := cell_blk h6 2
  have y3 := cell_blk h6 3
  have y4 := cell_blk h6 4
  have y5 := cell_blk h6 5
  have y6 := cell_blk h6 6
  have y7 := cell_blk h6 7
  have y8 := cell_blk h6 8
  have y9 := cell_blk h6 9
  have y10 := cell_blk h6 10
  simp at a4 a5 y0 y1 y2 y3 y4 y5 y6 y7 y8 y9 y10
  obtain ⟨S', er, k9, i9, re, ep9, rows, t, l, o, f, c, n⟩ := X
  have Hh := Lib.hid h
  have Hb1 := Lib.hid hb1
  have Hf1 := Lib.hid hf1
  have Hp := Lib.hid hp
  clear h hb1 hf1 hp h4 h5 h6 hin
  go_enter Try.func34, Try.ntmps34
  go_wp2_with fail
  generalize hW1 : World.alloc w _ = W1
  have e1 : w.alloc respO = W1 := hW1
  rw [e1] at Hb1 Hf1 Hp hz1
  clear a4 a5 hW1 e1
  refine Hp.out.mono ?_
  rintro e w2 ⟨v, B', rfl, ho, hM, hT, hv⟩
  obtain ⟨oa, oc, rfl, _⟩ := ho.sl fun _ => rfl
  have hf2 := (Says.mine Hh.out hT (Nat.le_refl _) (by omega)).trans Hf1.out
  have rf := frozen_blk hf2
  have z0 := cell_blk hf2 0
  have z1 := cell_blk hf2 1
  have z2 := cell_blk hf2 2
  have z3 := cell_blk hf2 3
  have z4 := cell_blk hf2 4
  have z5 := cell_blk hf2 5
  have z6 := cell_blk hf2 6
  have z7 := cell_blk hf2 7
  have z8 := cell_blk hf2 8
  have z9 := cell_blk hf2 9
  have z10 := cell_blk hf2 10
  simp at z0 z1 z2 z3 z4 z5 z6 z7 z8 z9 z10
  have Hf2 := Lib.hid hf2
  have H := Lib.hid (And.intro ho (And.intro hM (And.intro hT hv)))
  clear hf2 ho hM hT hv
  dsimp only [Rsp.at, respL]
  go_wp2_with fail
  refine bodyPost_resp (g := w.heap.size) (k := k9) (i := i9) (er := re) (ep := ep9) (rows := .slice oa rows.length oc) (t := t) (l := l) (o := o) (f := f) (c := c) (n := n) rfl rfl ?_ rfl ?_
  · with_reducible exact set11 Hf2.out _ _ _ _ _ _ _ _ _ _ _
  · refine Says.wrap Hh.out Hb1.out (l := [w.heap.size]) (fun g hg => by rw [List.mem_singleton.1 hg]; omega) H.out.1 H.out.2.1 H.out.2.2.1 H.out.2.2.2 ?_ rfl
    with_reducible exact chg11 _ _ _ _ _ _ _ _ _ _ _
set_option maxRecDepth 100000 in
set_option maxHeartbeats 2000000 in
theorem clos3_any {w : World} {B : MB} {S : Mst} (h : IsModel w B S) (g4 g5 g6 : Nat) (s : Int) (k i ep : Int) (qa : Option Addr) (qn qc : Nat) (fv : Int) (fk : ByteArray) (fs tv : Int) (tk : ByteArray) (ts lim : Int) (X : Mst × Int × Rsp)
    (h4 : w.heap[g4]? = some (.cells #[.pointer (some ⟨B.mp, 0, none⟩)] 28 (0, 0))) (h5 : w.heap[g5]? = some (.cells #[.int .i64 s] 3 (0, 0))) (h6 : w.heap[g6]? = some (.cells #[.int .i64 k, .int .i64 i, .int .i64 ep, .slice qa qn qc, .int .i64 fv, .string fk, .int .i64 fs, .int .i64 tv, .string tk, .int .i64 ts, .int .i64 lim] 48 (0, 0)))
    (hin : ∀ W, Below w.heap.size w W → Calls Try.prog 35 #[.pointer (some ⟨B.mp, 0, none⟩), .int .i64 s, .agg #[.int .i64 k, .int .i64 i, .int .i64 ep, .slice qa qn qc, .int .i64 fv, .string fk, .int .i64 fs, .int .i64 tv, .string tk, .int .i64 ts, .int .i64 lim]] W (Says W B X)) :
    Calls Try.prog 36 #[.pointer (some ⟨g4, 0, none⟩), .pointer (some ⟨g5, 0, none⟩), .pointer (some ⟨g6, 0, none⟩)] w (Says w B X) := by
  have hb1 : Below w.heap.size w (w.alloc respO) := (Below.refl _ _).alloc (Nat.le_refl _) _
  have hp := hin _ hb1
  have hf1 : (w.alloc respO).heap[w.heap.size]? = some respO := blk_at rfl
  have hz1 : (w.alloc respO).heap.size = w.heap.size + 1 := by simp
  have l4 := lt_of_block h4
  have l5 := lt_of_block h5
  have l6 := lt_of_block h6
  have a4 := cell_blk h4 0
  have a5 := cell_blk h5 0
  have y0 := cell_blk h6 0
  have y1 := cell_blk h6 1
  have y2 := cell_blk h6 2
  have y3 := cell_blk h6 3
  have y4 := cell_blk h6 4
  have y5 := cell_blk h6 5
  have y6 := cell_blk h6 6
  have y7 := cell_blk h6 7
  have y8 := cell_blk h6 8
  have y9 := cell_blk h6 9
  have y10 := cell_blk h6 10
  simp at a4 a5 y0 y1 y2 y3 y4 y5 y6 y7 y8 y9 y10
  obtain ⟨S', er, k9, i9, re, ep9, rows, t, l, o, f, c, n⟩ := X
  have Hh := Lib.hid h
  have Hb1 := Lib.hid hb1
  have Hf1 := Lib.hid hf1
  have Hp := Lib.hid hp
  clear h hb1 hf1 hp h4 h5 h6 hin
  go_enter Try.func36, Try.ntmps36
  go_wp2_with fail
  generalize hW1 : World.alloc w _ = W1
  have e1 : w.alloc respO = W1 := hW1
  rw [e1] at Hb1 Hf1 Hp hz1
  clear a4 a5 hW1 e1
  refine Hp.out.mono ?_
  rintro e w2 ⟨v, B', rfl, ho, hM, hT, hv⟩
  obtain ⟨oa, oc, rfl, _⟩ := ho.sl fun _ => rfl
  have hf2 := (Says.mine Hh.out hT (Nat.le_refl _) (by omega)).trans Hf1.out
  have rf := frozen_blk hf2
  have z0 := cell_blk hf2 0
  have z1 := cell_blk hf2 1
  have z2 := cell_blk hf2 2
  have z3 := cell_blk hf2 3
  have z4 := cell_blk hf2 4
  have z5 := cell_blk hf2 5
  have z6 := cell_blk hf2 6
  have z7 := cell_blk hf2 7
  have z8 := cell_blk hf2 8
  have z9 := cell_blk hf2 9
  have z10 := cell_blk hf2 10
  simp at z0 z1 z2 z3 z4 z5 z6 z7 z8 z9 z10
  have Hf2 := Lib.hid hf2
  have H := Lib.hid (And.intro ho (And.intro hM (And.intro hT hv)))
  clear hf2 ho hM hT hv
  dsimp only [Rsp.at, respL]
  go_wp2_with fail
  refine bodyPost_resp (g := w.heap.size) (k := k9) (i := i9) (er := re) (ep := ep9) (rows := .slice oa rows.length oc) (t := t) (l := l) (o := o) (f := f) (c := c) (n := n) rfl rfl ?_ rfl ?_
  · with_reducible exact set11 Hf2.out _ _ _ _ _ _ _ _ _ _ _
  · refine Says.wrap Hh.out Hb1.out (l := [w.heap.size]) (fun g hg => by rw [List.mem_singleton.1 hg]; omega) H.out.1 H.out.2.1 H.out.2.2.1 H.out.2.2.2 ?_ rfl
    with_reducible exact chg11 _ _ _ _ _ _ _ _ _ _ _
set_option maxRecDepth 100000 in
set_option maxHeartbeats 2000000 in
theorem clos4_any {w : World} {B : MB} {S : Mst} (h : IsModel w B S) (g4 g5 g6 : Nat) (s : Int) (k i ep : Int) (qa : Option Addr) (qn qc : Nat) (fv : Int) (fk : ByteArray) (fs tv : Int) (tk : ByteArray) (ts lim : Int) (X : Mst × Int × Rsp)
    (h4 : w.heap[g4]? = some (.cells #[.pointer (some ⟨B.mp, 0, none⟩)] 28 (0, 0))) (h5 : w.heap[g5]? = some (.cells #[.int .i64 s] 3 (0, 0))) (h6 : w.heap[g6]? = some (.cells #[.int .i64 k, .int .i64 i, .int .i64 ep, .slice qa qn qc, .int .i64 fv, .string fk, .int .i64 fs, .int .i64 tv, .string tk, .int .i64 ts, .int .i64 lim] 48 (0, 0)))
    (hin : ∀ W, Below w.heap.size w W → Calls Try.prog 35 #[.pointer (some ⟨B.mp, 0, none⟩), .int .i64 s, .agg #[.int .i64 k, .int .i64 i, .int .i64 ep, .slice qa qn qc, .int .i64 fv, .string fk, .int .i64 fs, .int .i64 tv, .string tk, .int .i64 ts, .int .i64 lim]] W (Says W B X)) :
    Calls Try.prog 37 #[.pointer (some ⟨g4, 0, none⟩), .pointer (some ⟨g5, 0, none⟩), .pointer (some ⟨g6, 0, none⟩)] w (Says w B X) := by
  have hb1 : Below w.heap.size w (w.alloc respO) := (Below.refl _ _).alloc (Nat.le_refl _) _
  have hp := hin _ hb1
  have hf1 : (w.alloc respO).heap[w.heap.size]? = some respO := blk_at rfl
  have hz1 : (w.alloc respO).heap.size = w.heap.size + 1 := by simp
  have l4 := lt_of_block h4
  have l5 := lt_of_block h5
  have l6 := lt_of_block h6
  have a4 := cell_blk h4 0
  have a5 := cell_blk h5 0
  have y0 := cell_blk h6 0
  have y1 := cell_blk h6 1
  have y2 := cell_blk h6 2
  have y3 := cell_blk h6 3
  have y4 := cell_blk h6 4
  have y5 := cell_blk h6 5
  have y6 := cell_blk h6 6
  have y7 := cell_blk h6 7
  have y8 := cell_blk h6 8
  have y9 := cell_blk h6 9
  have y10 := cell_blk h6 10
  simp at a4 a5 y0 y1 y2 y3 y4 y5 y6 y7 y8 y9 y10
  obtain ⟨S', er, k9, i9, re, ep9, rows, t, l, o, f, c, n⟩ := X
  have Hh := Lib.hid h
  have Hb1 := Lib.hid hb1
  have Hf1 := Lib.hid hf1
  have Hp := Lib.hid hp
  clear h hb1 hf1 hp h4 h5 h6 hin
  go_enter Try.func37, Try.ntmps37
  go_wp2_with fail
  generalize hW1 : World.alloc w _ = W1
  have e1 : w.alloc respO = W1 := hW1
  rw [e1] at Hb1 Hf1 Hp hz1
  clear a4 a5 hW1 e1
  refine Hp.out.mono ?_
  rintro e w2 ⟨v, B', rfl, ho, hM, hT, hv⟩
  obtain ⟨oa, oc, rfl, _⟩ := ho.sl fun _ => rfl
  have hf2 := (Says.mine Hh.out hT (Nat.le_refl _) (by omega)).trans Hf1.out
  have rf := frozen_blk hf2
  have z0 := cell_blk hf2 0
  have z1 := cell_blk hf2 1
  have z2 := cell_blk hf2 2
  have z3 := cell_blk hf2 3
  have z4 := cell_blk hf2 4
  have z5 := cell_blk hf2 5
  have z6 := cell_blk hf2 6
  have z7 := cell_blk hf2 7
  have z8 := cell_blk hf2 8
  have z9 := cell_blk hf2 9
  have z10 := cell_blk hf2 10
  simp at z0 z1 z2 z3 z4 z5 z6 z7 z8 z9 z10
  have Hf2 := Lib.hid hf2
  have H := Lib.hid (And.intro ho (And.intro hM (And.intro hT hv)))
  clear hf2 ho hM hT hv
  dsimp only [Rsp.at, respL]
  go_wp2_with fail
  refine bodyPost_resp (g := w.heap.size) (k := k9) (i := i9) (er := re) (ep := ep9) (rows := .slice oa rows.length oc) (t := t) (l := l) (o := o) (f := f) (c := c) (n := n) rfl rfl ?_ rfl ?_
  · with_reducible exact set11 Hf2.out _ _ _ _ _ _ _ _ _ _ _
  · refine Says.wrap Hh.out Hb1.out (l := [w.heap.size]) (fun g hg => by rw [List.mem_singleton.1 hg]; omega) H.out.1 H.out.2.1 H.out.2.2.1 H.out.2.2.2 ?_ rfl
    with_reducible exact chg11 _ _ _ _ _ _ _ _ _ _ _
set_option maxRecDepth 100000 in
set_option maxHeartbeats 2000000 in
theorem clos6_any {w : World} {B : MB} {S : Mst} (h : IsModel w B S) (g4 g5 g6 : Nat) (s : Int) (k i ep : Int) (qa : Option Addr) (qn qc : Nat) (fv : Int) (fk : ByteArray) (fs tv : Int) (tk : ByteArray) (ts lim : Int) (X : Mst × Int × Rsp)
    (h4 : w.heap[g4]? = some (.cells #[.pointer (some ⟨B.mp, 0, none⟩)] 28 (0, 0))) (h5 : w.heap[g5]? = some (.cells #[.int .i64 s] 3 (0, 0))) (h6 : w.heap[g6]? = some (.cells #[.int .i64 k, .int .i64 i, .int .i64 ep, .slice qa qn qc, .int .i64 fv, .string fk, .int .i64 fs, .int .i64 tv, .string tk, .int .i64 ts, .int .i64 lim] 48 (0, 0)))
    (hin : ∀ W, Below w.heap.size w W → Calls Try.prog 41 #[.pointer (some ⟨B.mp, 0, none⟩), .int .i64 s, .int .i64 ep] W (Says W B X)) :
    Calls Try.prog 40 #[.pointer (some ⟨g4, 0, none⟩), .pointer (some ⟨g5, 0, none⟩), .pointer (some ⟨g6, 0, none⟩)] w (Says w B X) := by
  have hb1 : Below w.heap.size w (w.alloc respO) := (Below.refl _ _).alloc (Nat.le_refl _) _
  have hp := hin _ hb1
  have hf1 : (w.alloc respO).heap[w.heap.size]? = some respO := blk_at rfl
  have hz1 : (w.alloc respO).heap.size = w.heap.size + 1 := by simp
  have l4 := lt_of_block h4
  have l5 := lt_of_block h5
  have l6 := lt_of_block h6
  have a4 := cell_blk h4 0
  have a5 := cell_blk h5 0
  have y2 := cell_blk h6 2
  simp at a4 a5 y2
  obtain ⟨S', er, k9, i9, re, ep9, rows, t, l, o, f, c, n⟩ := X
  have Hh := Lib.hid h
  have Hb1 := Lib.hid hb1
  have Hf1 := Lib.hid hf1
  have Hp := Lib.hid hp
  clear h hb1 hf1 hp h4 h5 h6 hin
  go_enter Try.func40, Try.ntmps40
  go_wp2_with fail
  generalize hW1 : World.alloc w _ = W1
  have e1 : w.alloc respO = W1 := hW1
  rw [e1] at Hb1 Hf1 Hp hz1
  clear a4 a5 hW1 e1
  refine Hp.out.mono ?_
  rintro e w2 ⟨v, B', rfl, ho, hM, hT, hv⟩
  obtain ⟨oa, oc, rfl, _⟩ := ho.sl fun _ => rfl
  have hf2 := (Says.mine Hh.out hT (Nat.le_refl _) (by omega)).trans Hf1.out
  have rf := frozen_blk hf2
  have z0 := cell_blk hf2 0
  have z1 := cell_blk hf2 1
  have z2 := cell_blk hf2 2
  have z3 := cell_blk hf2 3
  have z4 := cell_blk hf2 4
  have z5 := cell_blk hf2 5
  have z6 := cell_blk hf2 6
  have z7 := cell_blk hf2 7
  have z8 := cell_blk hf2 8
  have z9 := cell_blk hf2 9
  have z10 := cell_blk hf2 10
  simp at z0 z1 z2 z3 z4 z5 z6 z7 z8 z9 z10
  have Hf2 := Lib.hid hf2
  have H := Lib.hid (And.intro ho (And.intro hM (And.intro hT hv)))
  clear hf2 ho hM hT hv
  dsimp only [Rsp.at, respL]
  go_wp2_with fail
  refine bodyPost_resp (g := w.heap.size) (k := k9) (i := i9) (er := re) (ep := ep9) (rows := .slice oa rows.length oc) (t := t) (l := l) (o := o) (f := f) (c := c) (n := n) rfl rfl ?_ rfl ?_
  · with_reducible exact set11 Hf2.out _ _ _ _ _ _ _ _ _ _ _
  · refine Says.wrap Hh.out Hb1.out (l := [w.heap.size]) (fun g hg => by rw [List.mem_singleton.1 hg]; omega) H.out.1 H.out.2.1 H.out.2.2.1 H.out.2.2.2 ?_ rfl
    with_reducible exact chg11 _ _ _ _ _ _ _ _ _ _ _
set_option maxRecDepth 100000 in
set_option maxHeartbeats 2000000 in
theorem clos7_any {w : World} {B : MB} {S : Mst} (h : IsModel w B S) (g4 g5 g6 : Nat) (s : Int) (k i ep : Int) (qa : Option Addr) (qn qc : Nat) (fv : Int) (fk : ByteArray) (fs tv : Int) (tk : ByteArray) (ts lim : Int) (X : Mst × Int × Rsp)
    (h4 : w.heap[g4]? = some (.cells #[.pointer (some ⟨B.mp, 0, none⟩)] 28 (0, 0))) (h5 : w.heap[g5]? = some (.cells #[.int .i64 s] 3 (0, 0))) (h6 : w.heap[g6]? = some (.cells #[.int .i64 k, .int .i64 i, .int .i64 ep, .slice qa qn qc, .int .i64 fv, .string fk, .int .i64 fs, .int .i64 tv, .string tk, .int .i64 ts, .int .i64 lim] 48 (0, 0)))
    (hin : ∀ W, Below w.heap.size w W → Calls Try.prog 43 #[.pointer (some ⟨B.mp, 0, none⟩), .int .i64 s, .int .i64 ep] W (Says W B X)) :
    Calls Try.prog 42 #[.pointer (some ⟨g4, 0, none⟩), .pointer (some ⟨g5, 0, none⟩), .pointer (some ⟨g6, 0, none⟩)] w (Says w B X) := by
  have hb1 : Below w.heap.size w (w.alloc respO) := (Below.refl _ _).alloc (Nat.le_refl _) _
  have hp := hin _ hb1
  have hf1 : (w.alloc respO).heap[w.heap.size]? = some respO := blk_at rfl
  have hz1 : (w.alloc respO).heap.size = w.heap.size + 1 := by simp
  have l4 := lt_of_block h4
  have l5 := lt_of_block h5
  have l6 := lt_of_block h6
  have a4 := cell_blk h4 0
  have a5 := cell_blk h5 0
  have y2 := cell_blk h6 2
  simp at a4 a5 y2
  obtain ⟨S', er, k9, i9, re, ep9, rows, t, l, o, f, c, n⟩ := X
  have Hh := Lib.hid h
  have Hb1 := Lib.hid hb1
  have Hf1 := Lib.hid hf1
  have Hp := Lib.hid hp
  clear h hb1 hf1 hp h4 h5 h6 hin
  go_enter Try.func42, Try.ntmps42
  go_wp2_with fail
  generalize hW1 : World.alloc w _ = W1
  have e1 : w.alloc respO = W1 := hW1
  rw [e1] at Hb1 Hf1 Hp hz1
  clear a4 a5 hW1 e1
  refine Hp.out.mono ?_
  rintro e w2 ⟨v, B', rfl, ho, hM, hT, hv⟩
  obtain ⟨oa, oc, rfl, _⟩ := ho.sl fun _ => rfl
  have hf2 := (Says.mine Hh.out hT (Nat.le_refl _) (by omega)).trans Hf1.out
  have rf := frozen_blk hf2
  have z0 := cell_blk hf2 0
  have z1 := cell_blk hf2 1
  have z2 := cell_blk hf2 2
  have z3 := cell_blk hf2 3
  have z4 := cell_blk hf2 4
  have z5 := cell_blk hf2 5
  have z6 := cell_blk hf2 6
  have z7 := cell_blk hf2 7
  have z8 := cell_blk hf2 8
  have z9 := cell_blk hf2 9
  have z10 := cell_blk hf2 10
  simp at z0 z1 z2 z3 z4 z5 z6 z7 z8 z9 z10
  have Hf2 := Lib.hid hf2
  have H := Lib.hid (And.intro ho (And.intro hM (And.intro hT hv)))
  clear hf2 ho hM hT hv
  dsimp only [Rsp.at, respL]
  go_wp2_with fail
  refine bodyPost_resp (g := w.heap.size) (k := k9) (i := i9) (er := re) (ep := ep9) (rows := .slice oa rows.length oc) (t := t) (l := l) (o := o) (f := f) (c := c) (n := n) rfl rfl ?_ rfl ?_
  · with_reducible exact set11 Hf2.out _ _ _ _ _ _ _ _ _ _ _
  · refine Says.wrap Hh.out Hb1.out (l := [w.heap.size]) (fun g hg => by rw [List.mem_singleton.1 hg]; omega) H.out.1 H.out.2.1 H.out.2.2.1 H.out.2.2.2 ?_ rfl
    with_reducible exact chg11 _ _ _ _ _ _ _ _ _ _ _
/-- The counts as a response. -/
def Mst.told4 (S : Mst) : Mst × Int × Rsp := (S, 0, ⟨4, 0, 0, 0, [], S.cnt.t, S.cnt.l, S.cnt.o, S.cnt.f, S.L.length, S.now⟩)
set_option maxRecDepth 100000 in
set_option maxHeartbeats 2000000 in
theorem clos8_any {w : World} {B : MB} {S : Mst} (h : IsModel w B S) (g4 : Nat) (h4 : w.heap[g4]? = some (.cells #[.pointer (some ⟨B.mp, 0, none⟩)] 28 (0, 0))) :
    Calls Try.prog 44 #[.pointer (some ⟨g4, 0, none⟩)] w (Says w B S.told4) := by
  have hb1 : Below w.heap.size w (w.alloc respO) := (Below.refl _ _).alloc (Nat.le_refl _) _
  have hst := stats_any (h.below hb1)
  unfold Mst.statsV at hst
  have hf1 : (w.alloc respO).heap[w.heap.size]? = some respO := blk_at rfl
  have hz1 : (w.alloc respO).heap.size = w.heap.size + 1 := by simp
  have l4 := lt_of_block h4
  have a4 := cell_blk h4 0
  simp at a4
  have Hh := Lib.hid h
  have Hb1 := Lib.hid hb1
  have Hf1 := Lib.hid hf1
  have Hst := Lib.hid hst
  clear h hb1 hf1 hst h4
  unfold Mst.told4
  generalize S.cnt.t = x0 at *
  generalize S.cnt.l = x1 at *
  generalize S.cnt.o = x2 at *
  generalize S.cnt.f = x3 at *
  generalize S.L.length = x4 at *
  generalize S.now = x5 at *
  go_enter Try.func44, Try.ntmps44
  go_wp2_with fail
  generalize hW1 : World.alloc w _ = W1
  have e1 : w.alloc respO = W1 := hW1
  rw [e1] at Hb1 Hf1 Hst hz1
  clear a4 hW1 e1
  refine Hst.out.mono ?_
  rintro e w2 ⟨rfl, hb2⟩
  have hf2 := (hb2.block _ (lt_of_block Hf1.out)).trans Hf1.out
  have rf := frozen_blk hf2
  have z0 := cell_blk hf2 0
  have z1 := cell_blk hf2 1
  have z2 := cell_blk hf2 2
  have z3 := cell_blk hf2 3
  have z4 := cell_blk hf2 4
  have z5 := cell_blk hf2 5
  have z6 := cell_blk hf2 6
  have z7 := cell_blk hf2 7
  have z8 := cell_blk hf2 8
  have z9 := cell_blk hf2 9
  have z10 := cell_blk hf2 10
  simp at z0 z1 z2 z3 z4 z5 z6 z7 z8 z9 z10
  have Hf2 := Lib.hid hf2
  have Hb2 := Lib.hid hb2
  clear hf2 hb2
  go_wp2_with fail
  refine bodyPost_resp (g := w.heap.size) (k := 4) (i := 0) (er := 0) (ep := 0) (rows := .slice none 0 0) (t := x0) (l := x1) (o := x2) (f := x3) (c := x4) (n := x5) rfl rfl ?_ rfl ?_
  · with_reducible exact set11 Hf2.out _ _ _ _ _ _ _ _ _ _ _
  · refine Says.wrap (r := ⟨4, 0, 0, 0, [], x0, x1, x2, x3, x4, x5⟩) (v := .slice Option.none 0 0) Hh.out Hb1.out (l := [w.heap.size]) (fun g hg => by rw [List.mem_singleton.1 hg]; omega) (Own.nil _ _ _ _ _) ((Hh.out.below Hb1.out).below Hb2.out) (Turn.of_below B Hb2.out) (fun g hg => by cases hg) ?_ rfl
    with_reducible exact chg11 _ _ _ _ _ _ _ _ _ _ _
end Go.Proofs.Ytaicecnfodhlcaa
/- rows of a scan: those from one cell to ahead of another. -/
set_option linter.unusedVariables false
set_option linter.unusedSimpArgs false
namespace Go.Proofs.Ytaicecnfodhlcaa
open Go.RowKit Go.Deep

/-- Does a scan take it? -/
def scanP (f t c : Cell) : Bool := decide (ccmp f c ≤ 0) && decide (ccmp c t < 0)
set_option maxRecDepth 100000 in
set_option maxHeartbeats 2000000 in
theorem scan_any (g : Nat) (f t : Cell) (k i ep : Int) (qa : Option Addr) (qn qc : Nat) (lim : Int) (c : Cell) (w : World) (hq : w.heap[g]? = some (.cells #[.int .i64 k, .int .i64 i, .int .i64 ep, .slice qa qn qc, .int .i64 f.v, .string f.k, .int .i64 f.s, .int .i64 t.v, .string t.k, .int .i64 t.s, .int .i64 lim] 48 (0, 0))) :
    Calls Try.prog 66 #[.agg #[.int .i64 c.v, .string c.k, .int .i64 c.s], .pointer (some ⟨g, 0, none⟩)] w fun e w' => e = .returned (.bool (scanP f t c)) ∧ Below w.heap.size w w' := by
  have hb0 : Below w.heap.size w (w.alloc (.cells #[.int .i64 c.v, .string c.k, .int .i64 c.s] 46)) := (Below.refl _ _).alloc (Nat.le_refl _) _
  have hz0 : (w.alloc (.cells #[.int .i64 c.v, .string c.k, .int .i64 c.s] 46)).heap.size = w.heap.size + 1 := by simp
  have hq0 := (hb0.block g (lt_of_block hq)).trans hq
  have hc0 : (w.alloc (.cells #[.int .i64 c.v, .string c.k, .int .i64 c.s] 46)).heap[w.heap.size]? = some (.cells #[.int .i64 c.v, .string c.k, .int .i64 c.s] 46 (0, 0)) := blk_at rfl
  have lg := lt_of_block hq
  have a4 := cell_blk hq 4
  have a5 := cell_blk hq 5
  have a6 := cell_blk hq 6
  simp at a4 a5 a6
  have Hb0 := Lib.hid hb0
  have Hq0 := Lib.hid hq0
  have Hc0 := Lib.hid hc0
  have hP : ∀ x, scanP f t c = x → scanP f t c = x := fun x h => h
  clear hb0 hq0 hc0 hq
  go_enter Try.func66, Try.ntmps66
  go_wp2_with fail
  refine (mcompare_below f c _).mono ?_
  rintro e w1 ⟨rfl, hb1⟩
  have Hb1 := Lib.hid (Hb0.out.trans (hb1.mono Hb0.out.size))
  have hq1 := (hb1.block g (by omega)).trans Hq0.out
  have hc1 := (hb1.block w.heap.size (by omega)).trans Hc0.out
  clear hb1 a4 a5 a6
  by_cases h1 : ccmp f c ≤ 0
  · have a7 := cell_blk hq1 7
    have a8 := cell_blk hq1 8
    have a9 := cell_blk hq1 9
    have b0 := cell_blk hc1 0
    have b1 := cell_blk hc1 1
    have b2 := cell_blk hc1 2
    simp at a7 a8 a9 b0 b1 b2
    have H1 := Lib.hid h1
    clear hq1 hc1
    go_wp2_with fail
    refine (mcompare_below c t _).mono ?_
    rintro e w2 ⟨rfl, hb2⟩
    go_wp2_with fail
    go_ret
    refine ⟨ret_bool ?_, Hb1.out.trans (hb2.mono Hb1.out.size)⟩
    unfold scanP
    rw [decide_eq_true H1.out]
    rfl
  · clear hq1 hc1
    go_wp2_with fail
    go_ret
    refine ⟨ret_bool ?_, Hb1.out⟩
    unfold scanP
    rw [decide_eq_false (by omega)]
    rfl

set_option maxHeartbeats 4000000 in
set_option maxRecDepth 100000 in
theorem rows_scan (b : Nat) (L : List Rw) (g : Nat) (f t : Cell) (k i ep : Int) (qa : Option Addr) (qn qc : Nat) (lim : Int) (w : World) (h : HasMap w b L) (hr : Rise (L.map (·.cell))) (hmax : L.length ≤ 100000000) (hlg : g < w.heap.size) (Hq9 : Hid (w.heap[g]? = some (.cells #[.int .i64 k, .int .i64 i, .int .i64 ep, .slice qa qn qc, .int .i64 f.v, .string f.k, .int .i64 f.s, .int .i64 t.v, .string t.k, .int .i64 t.s, .int .i64 lim] 48 (0, 0)))) :
    Calls Try.prog 45 #[.map (some b), .func (.func 66) #[] #[.pointer (some ⟨g, 0, none⟩)]] w fun e w' => ∃ v, e = .returned v ∧ Own 53 7 rowL w.heap.size w' v (L.filter fun r => scanP f t r.cell) ∧ Below w.heap.size w w' := by
  obtain ⟨m, hm, hp⟩ := h
  have hbr := hm.lt
  have hnd := hm.nd
  have hml : m.length ≤ 100000000 := by have := hp.length_eq; simp at this; omega
  have Hp := Lib.hid hp
  have Hr := Lib.hid hr
  clear hp hmax hr
  go_enter Try.func45, Try.ntmps45
  go_wp2_with (at_range; refine wpList_rangeM rfl _ rfl Try.underlying83 b m rfl hm ?_)
  intro w1 hrg hg1 hs1
  have hb1 : Below w.heap.size w w1 := (Below.refl _ _).grown hg1 (Nat.le_refl _) (fun k hk => by cases hk)
  clear hm hg1
  go_wp2_with fail
  go_loopg [5] m.length (fun g5 v wr => ∃ done left, g5 = left.length ∧ Ranging cellV wr b w.heap.size m left ∧ Own 53 7 rowL (w.heap.size + 1) wr v done ∧ done.length + left.length ≤ m.length ∧ RowsDone (fun c => scanP f t c) m done left ∧ Below w.heap.size w wr ∧ w.heap.size + 1 ≤ wr.heap.size)
  case atStart => exact ⟨[], m, rfl, hrg, Own.nil _ _ _ _ _, by simp, by simp [RowsDone], hb1, by omega⟩
  case round =>
    obtain ⟨done, left, hg, hrg, hown, hdl, hperm, hb, hsz⟩ := hrel
    have Hg := Lib.hid hg
    have Hown := Lib.hid hown
    have Hperm := Lib.hid hperm
    clear hg hown hperm
    obtain ⟨o, cap, rfl, hcap, _, hov, hun⟩ := Hown.out.sl fun _ => rfl
    go_wp2_with (at_next; refine wpList_nextC rfl _ rfl b w.heap.size m left rfl hrg ?_ ?_)
    · intro h0
      have hperm' := Hperm.out.fin Hp.out h0
      have hnd' : (done.map (·.cell)).Nodup := (hperm'.map _).nodup_iff.2 (Rise.nodup (List.Pairwise.sublist (List.Sublist.map _ List.filter_sublist) Hr.out))
      have Hpf := Lib.hid hperm'
      have Hnf := Lib.hid hnd'
      have Hrf := Lib.hid (show Rise ((L.filter fun r => scanP f t r.cell).map (·.cell)) from List.Pairwise.sublist (List.Sublist.map _ List.filter_sublist) Hr.out)
      clear h0 hperm' hnd'
      go_wp2_with fail
      rcases Nat.eq_zero_or_pos done.length with hd | hd
      · obtain rfl := List.eq_nil_of_length_eq_zero hd
        refine (sortRows_none _ _ _ _).mono ?_
        rintro e w' ⟨rfl, hw'⟩
        subst hw'
        go_wp2_with fail
        go_ret
        refine ⟨_, rfl, ?_, hb⟩
        rw [show (L.filter fun r => scanP f t r.cell) = [] from Hpf.out.symm.eq_nil]
        exact Own.mono (B := w.heap.size + 1) (B' := w.heap.size) Hown.out (by omega)
      · obtain ⟨g6, rfl, hg1, hg2⟩ := Hown.out.pos hd
        refine (sortRows_any g6 cap done _ _ Hown.out (by omega) Hnf.out).mono ?_
        rintro e w' ⟨rfl, ys, hy1, hy2, ho', hch⟩
        have hys : ys = L.filter fun r => scanP f t r.cell := rise_eq hy2 Hrf.out (hy1.trans Hpf.out)
        have Hys := Lib.hid hys
        have hlys := hy1.length_eq
        have Hlys := Lib.hid hlys
        clear hys hy1 hlys
        go_wp2_with fail
        go_ret
        refine ⟨_, rfl, ?_, Below.chain hb hch (by omega) (by simp; omega)⟩
        rw [← Hys.out]
        exact Own.mono (B := w.heap.size + 1) (B' := w.heap.size) ho' (by omega)
    · intro c y w2 hpl hrg2 hgr2 hs2 hen
      have hs2a := Nat.le_of_eq hs2
      have hs2b := Nat.le_of_eq hs2.symm
      clear hs2
      have hym := hrg.sub.subset hpl
      have hb2 : Below w.heap.size w w2 := hb.grown hgr2 (by omega) (fun k hk => by cases hk; exact Nat.le_refl _)
      have hown2 := Hown.out.grown hgr2 (by omega)
      obtain ⟨r, hrL, hre⟩ : ∃ r ∈ L, (r.cell, r.agg.v) = (c, y) := by simpa using (Hp.out.mem_iff.1 hym)
      obtain ⟨rc, ra⟩ := r
      simp only [Prod.mk.injEq] at hre
      obtain ⟨rfl, rfl⟩ := hre
      have hln : (left.map (·.1)).Nodup := hnd.sublist (List.Sublist.map _ hrg.sub)
      have hlp := left_perm hln hpl
      have hlen := hlp.length_eq
      have Hstep := Lib.hid (fun hP => Hperm.out.step (r := ⟨rc, ra⟩) hln hpl hP)
      have Hskip := Lib.hid (fun hP => Hperm.out.skip hln hpl (P := hP))
      have Hown2 := Lib.hid hown2
      have Hlen := Lib.hid hlen
      clear hown2 hlp hym hrL hlen
      obtain ⟨cv, ck, cs⟩ := rc
      obtain ⟨ac, au, an, ax⟩ := ra
      dsimp only at *
      have hb22 : Below w2.heap.size w2 ((w2.alloc (.cells #[.int .i64 cv, .string ck, .int .i64 cs] 46)).alloc (.cells #[.int .i64 ac, .int .i64 au, .int .i64 an, .int .i64 ax] 51)) := ((Below.refl _ _).alloc (Nat.le_refl _) _).alloc (by simp) _
      have e6 : ((w2.alloc (.cells #[.int .i64 cv, .string ck, .int .i64 cs] 46)).alloc (.cells #[.int .i64 ac, .int .i64 au, .int .i64 an, .int .i64 ax] 51)).heap[w2.heap.size]? = some (.cells #[.int .i64 cv, .string ck, .int .i64 cs] 46 (0, 0)) := (blk_old (by simp)).trans (blk_at rfl)
      have e7 : ((w2.alloc (.cells #[.int .i64 cv, .string ck, .int .i64 cs] 46)).alloc (.cells #[.int .i64 ac, .int .i64 au, .int .i64 an, .int .i64 ax] 51)).heap[w2.heap.size + 1]? = some (.cells #[.int .i64 ac, .int .i64 au, .int .i64 an, .int .i64 ax] 51 (0, 0)) := blk_at (by simp)
      have hz22 : ((w2.alloc (.cells #[.int .i64 cv, .string ck, .int .i64 cs] 46)).alloc (.cells #[.int .i64 ac, .int .i64 au, .int .i64 an, .int .i64 ax] 51)).heap.size = w2.heap.size + 1 + 1 := by simp
      go_wp2_with fail
      refine (scan_any g f t k i ep qa qn qc lim ⟨cv, ck, cs⟩ _ ((hb22.block g (by have := hb2.size; omega)).trans ((hb2.block g hlg).trans Hq9.out))).mono ?_
      rintro e w3 ⟨rfl, hb3⟩
      have hz3 := hb3.size
      rw [hz22] at hz3
      obtain ⟨q, hq⟩ : ∃ q : Bool, q = scanP f t ⟨cv, ck, cs⟩ := ⟨_, rfl⟩
      rw [← hq]
      have g6 := (hb3.block _ (by simp; omega)).trans e6
      have g7 := (hb3.block _ (by simp)).trans e7
      have hb23 := Below.trans hb22 (hb3.mono (by simp; omega))
      have Hq := Lib.hid hq
      have Hb23 := Lib.hid hb23
      have hrg3 : Ranging cellV w3 b w.heap.size m (left.filter fun q => decide (q.1 ≠ (⟨cv, ck, cs⟩ : Cell))) := by
        have h := hrg2.keep (hb23.block _ (by have := hrg2.lt; omega)) (hb23.block _ (by have := hrg2.lt; omega))
        simpa using h
      have Hrg3 := Lib.hid hrg3
      have Hown3 := Lib.hid (Hown2.out.below hb23)
      have hb03 : Below w.heap.size w w3 := hb2.trans (hb23.mono (by omega))
      have Hlen2 := Lib.hid (show (left.filter fun q => decide (q.1 ≠ (⟨cv, ck, cs⟩ : Cell))).length + 1 = left.length from by have := Hlen.out; simpa using this)
      clear hq hb23 hrg3 e6 e7 hb3 hz22 hb22 hrg2 Hown2 Hlen
      cases q
      · go_wp2_with fail
        go_roundg (left.filter fun q => decide (q.1 ≠ (⟨cv, ck, cs⟩ : Cell))).length
        case measure =>
          have := Hlen2.out
          have := Hg.out
          omega
        case rel => exact ⟨done, _, rfl, Hrg3.out, Hown3.out, by have := Hlen2.out; omega, Hskip.out Hq.out.symm, hb03, by omega⟩
      · have c0 := cell_blk g6 0
        have c1 := cell_blk g6 1
        have c2 := cell_blk g6 2
        have k0 := cell_blk g7 0
        have k1 := cell_blk g7 1
        have k2 := cell_blk g7 2
        have k3 := cell_blk g7 3
        simp at c0 c1 c2 k0 k1 k2 k3
        have hownA := Hown3.out.alloc (.cells #[.int .i64 cv, .string ck, .int .i64 cs, .int .i64 ac, .int .i64 au, .int .i64 an, .int .i64 ax] 53)
        have HownA := Lib.hid hownA
        have h9 := sl_new (sz := 7) (enc := rowL) (⟨⟨cv, ck, cs⟩, ⟨ac, au, an, ax⟩⟩ : Rw) w3 53 (cs := #[.int .i64 cv, .string ck, .int .i64 cs, .int .i64 ac, .int .i64 au, .int .i64 an, .int .i64 ax]) rfl
        clear hownA g6 g7
        go_wp2_with (at_builtin; (refine wpList_app st_row rfl _ _ rfl rowL (fun _ => rfl) cells1_row (w.heap.size + 1) _ done rfl HownA.out (some ⟨w3.heap.size, 0, none⟩) 1 1 [⟨⟨cv, ck, cs⟩, ⟨ac, au, an, ax⟩⟩] rfl rfl ?c1 ?c2 ?c3 ?c4 ?_))
        case c1 => exact h9
        case c2 => simp; omega
        case c3 => decide
        case c4 => simp; omega
        intro v' w4 hown' hgr _
        have hov' : ∀ k, some k = Value.ownBlock (.slice o done.length cap) → w.heap.size + 1 ≤ k := fun k hk => (HownA.out.ge hk.symm).1
        have hb4 : Below w.heap.size w w4 := (hb03.alloc (by omega) _).grown hgr (by simp; omega) (fun k hk => by have := hov' k hk.symm; omega)
        have hz4 : w3.heap.size + 1 ≤ w4.heap.size := by have := hgr.size; simpa using this
        have hlt3 := Hrg3.out.lt
        have hrg4 : Ranging cellV w4 b w.heap.size m (left.filter fun q => decide (q.1 ≠ (⟨cv, ck, cs⟩ : Cell))) := by
          refine Hrg3.out.keep ?_ ?_
          · rw [hgr.block _ (by simp; omega) (fun e => by have := hov' _ e; omega), blk_old (by omega)]
          · rw [hgr.block _ (by simp; omega) (fun e => by have := hov' _ e; omega), blk_old (by omega)]
        have Hrg4 := Lib.hid hrg4
        have Hown4 := Lib.hid hown'
        clear hrg4 hown' hgr hov'
        go_wp2_with fail
        go_roundg (left.filter fun q => decide (q.1 ≠ (⟨cv, ck, cs⟩ : Cell))).length
        case measure =>
          have := Hlen2.out
          have := Hg.out
          omega
        case rel => exact ⟨done ++ [⟨⟨cv, ck, cs⟩, ⟨ac, au, an, ax⟩⟩], _, rfl, Hrg4.out, Hown4.out, by have := Hlen2.out; rw [List.length_append]; show done.length + 1 + _ ≤ _; omega, Hstep.out Hq.out.symm, hb4, by omega⟩
end Go.Proofs.Ytaicecnfodhlcaa
