/- read: what is not held; a scan. -/
import Derived.Test.YtaicecnfodhlcaaJ17
import Derived.Test.YtaicecnfodhlcaaJ16
import Derived.Test.YtaicecnfodhlcaaJ15
import Derived.Test.YtaicecnfodhlcaaJ13
set_option linter.unusedVariables false
set_option linter.unusedSimpArgs false
namespace Go.Proofs.Ytaicecnfodhlcaa
open Go.RowKit Go.Deep

/-- The map that a session reads at an epoch (0: now). -/
def Mst.readL (S : Mst) (s ep : Int) : Option (List Rw) := if ep = 0 then some S.L else if S.holds s ep = true then S.seals ep else none
def getRows (L : List Rw) (cs : List Cell) : List Rw := cs.map fun c => ⟨c, getA L c⟩
def scanRows (L : List Rw) (f t : Cell) (lim : Int) : List Rw := (L.filter fun r => scanP f t r.cell).take lim.toNat
def Mst.read (S : Mst) (s : Int) (q : Rq) : Mst × Int × Rsp :=
  match S.readL s q.ep with
  | none => (S, 33, Rsp.no)
  | some L => if q.k = 3 then (if q.ep = 0 then (if S.now = 1099511627776 then (S, 2, Rsp.no) else (S.sealed, 0, ⟨1, 0, 0, 0, scanRows L q.f q.t q.lim, 0, 0, 0, 0, 0, 0⟩)) else (S, 0, ⟨1, 0, 0, 0, scanRows L q.f q.t q.lim, 0, 0, 0, 0, 0, 0⟩))
    else (S, 0, ⟨1, 0, 0, 0, getRows L q.cells, 0, 0, 0, 0, 0, 0⟩)
theorem Own.takeS {α : Type} {E sz B n cap : Nat} {o : Option Addr} {enc : α → List Value} {w : World} {xs : List α} (hz : ∀ x, (enc x).length = sz) (h : Own E sz enc B w (.slice o n cap) xs) (hn : n = xs.length) (k : Nat) (hk : k ≤ n) : Own E sz enc B w (.slice o k cap) (xs.take k) := by
  subst hn
  obtain ⟨hl, h⟩ := h
  have hlen : (xs.take k).length = k := by rw [List.length_take]; omega
  have hflat : (xs.take k).flatMap enc = (xs.flatMap enc).take (k * sz) := by
    have h1 : xs.flatMap enc = (xs.take k).flatMap enc ++ (xs.drop k).flatMap enc := by rw [← List.flatMap_append, List.take_append_drop]
    have h2 : ((xs.take k).flatMap enc).length = k * sz := by rw [flat_length hz, hlen]
    rw [h1, ← h2, List.take_left]
  refine ⟨by rw [flat_length hz], ?_⟩
  rcases h with ⟨he, h0⟩ | ⟨g, c2, cur, he, hB, hb, hcap, hmax, hcs, htake⟩
  · injection he with e1 e2 e3
    refine .inl ⟨?_, ?_⟩
    · rw [e1, e3, show k = 0 by omega]
    · rw [hlen]; omega
  · injection he with e1 e2 e3
    refine .inr ⟨g, c2, cur, ?_, hB, hb, by rw [hlen]; omega, hmax, hcs, ?_⟩
    · rw [e1, e3, hlen]
    · rw [hlen, hflat, ← htake, List.take_take, Nat.min_eq_left (Nat.mul_le_mul_right _ hk)]
/-- What stays in read's drawn regions. -/
abbrev ReadA (mp bh bs gq : Nat) (s ep : Int) (hb : Option Nat) (v0 : Bool) (sv : Value) (W0 W : World) : Prop := Below W0.heap.size W0 W ∧ W.cell? ⟨mp, 17, none⟩ = some (.map (some bh)) ∧ W.cell? ⟨mp, 16, none⟩ = some (.map (some bs)) ∧ W.cell? ⟨gq, 2, none⟩ = some (.int .i64 ep) ∧
  (Instr.lookup 85 (.map (some bh)) (.int .i64 s) false).run Try.prog W = .ok (.map hb) W ∧ (Instr.lookup 138 (.map hb) (.int .i64 ep) false).run Try.prog W = .ok (.bool v0) W ∧ (Instr.lookup 84 (.map (some bs)) (.int .i64 ep) false).run Try.prog W = .ok sv W
set_option maxRecDepth 100000 in
set_option maxHeartbeats 4000000 in
theorem read_none {w : World} {B : MB} {S : Mst} (h : IsModel w B S) (s : Int) (k i ep : Int) (qa : Option Addr) (qn qc : Nat) (f t : Cell) (lim : Int) (hep : ep ≠ 0) (hv : S.holds s ep = false) :
    Calls Try.prog 35 #[.pointer (some ⟨B.mp, 0, none⟩), .int .i64 s, .agg #[.int .i64 k, .int .i64 i, .int .i64 ep, .slice qa qn qc, .int .i64 f.v, .string f.k, .int .i64 f.s, .int .i64 t.v, .string t.k, .int .i64 t.s, .int .i64 lim]] w
      (Says w B (S, 33, Rsp.no)) := by
  have hb1 : Below w.heap.size w ((w.alloc (.cells #[.int .i64 k, .int .i64 i, .int .i64 ep, .slice qa qn qc, .int .i64 f.v, .string f.k, .int .i64 f.s, .int .i64 t.v, .string t.k, .int .i64 t.s, .int .i64 lim] 48)).alloc respO) := ((Below.refl _ _).alloc (Nat.le_refl _) _).alloc (by simp) _
  have hf1 : ((w.alloc (.cells #[.int .i64 k, .int .i64 i, .int .i64 ep, .slice qa qn qc, .int .i64 f.v, .string f.k, .int .i64 f.s, .int .i64 t.v, .string t.k, .int .i64 t.s, .int .i64 lim] 48)).alloc respO).heap[w.heap.size + 1]? = some respO := blk_at (by simp)
  have hq1 : ((w.alloc (.cells #[.int .i64 k, .int .i64 i, .int .i64 ep, .slice qa qn qc, .int .i64 f.v, .string f.k, .int .i64 f.s, .int .i64 t.v, .string t.k, .int .i64 t.s, .int .i64 lim] 48)).alloc respO).heap[w.heap.size]? = some (.cells #[.int .i64 k, .int .i64 i, .int .i64 ep, .slice qa qn qc, .int .i64 f.v, .string f.k, .int .i64 f.s, .int .i64 t.v, .string t.k, .int .i64 t.s, .int .i64 lim] 48 (0, 0)) := (blk_old (by simp)).trans (blk_at rfl)
  have hM1 := h.below hb1
  have c12 := hM1.parts.pinS.2
  have hepb : (ep != 0) = true := by simp [hep]
  have kA : ∀ W, Below w.heap.size w W → W.heap[w.heap.size]? = some (.cells #[.int .i64 k, .int .i64 i, .int .i64 ep, .slice qa qn qc, .int .i64 f.v, .string f.k, .int .i64 f.s, .int .i64 t.v, .string t.k, .int .i64 t.s, .int .i64 lim] 48 (0, 0)) → ∀ W', Below W.heap.size W W' → ReadA B.mp B.bh B.bs w.heap.size s ep (B.hk s) false (sealV B S ep) W W' := by
    intro W hW hq W' hW'
    have hm := h.below (hW.trans (hW'.mono hW.size))
    have hq' := (hW'.block _ (lt_of_block hq)).trans hq
    have h1 := hm.holds.has s ep
    rw [hv] at h1
    exact ⟨hW', hm.parts.cell17, hm.parts.cell16, cell_blk hq' 2, hm.holds.get s, h1, by have := hm.seals.get ep false; simpa using this⟩
  have Hh := Lib.hid h
  have Hb1 := Lib.hid hb1
  have Hf1 := Lib.hid hf1
  have Hq1 := Lib.hid hq1
  have Hk := Lib.hid kA
  clear h hb1 hf1 hq1 hM1 kA hv hep
  generalize B.hk s = hb at *
  generalize sealV B S ep = sv at *
  go_enter Try.func35, Try.ntmps35
  go_wp2_with fail
  generalize hW1 : World.alloc _ respO = W1
  have e1 : (w.alloc (.cells #[.int .i64 k, .int .i64 i, .int .i64 ep, .slice qa qn qc, .int .i64 f.v, .string f.k, .int .i64 f.s, .int .i64 t.v, .string t.k, .int .i64 t.s, .int .i64 lim] 48)).alloc respO = W1 := hW1
  rw [e1] at Hb1 Hf1 Hq1
  have kD := Hk.out W1 Hb1.out Hq1.out _ (Below.refl _ _).drew
  clear c12 hW1 e1
  go_region_held3 (fun W => ReadA B.mp B.bh B.bs w.heap.size s ep hb false sv W1 W) (first | exact kD | assumption) (fail)
  have rf := frozen_blk Hf1.out
  have z0 := cell_blk Hf1.out 0
  have z1 := cell_blk Hf1.out 1
  have z2 := cell_blk Hf1.out 2
  have z3 := cell_blk Hf1.out 3
  have z4 := cell_blk Hf1.out 4
  have z5 := cell_blk Hf1.out 5
  have z6 := cell_blk Hf1.out 6
  have z7 := cell_blk Hf1.out 7
  have z8 := cell_blk Hf1.out 8
  have z9 := cell_blk Hf1.out 9
  have z10 := cell_blk Hf1.out 10
  simp at z0 z1 z2 z3 z4 z5 z6 z7 z8 z9 z10
  go_wp2_with fail
  refine bodyPost_resp (g := w.heap.size + 1) (k := 0) (i := 0) (er := 0) (ep := 0) (rows := .slice none 0 0) (t := 0) (l := 0) (o := 0) (f := 0) (c := 0) (n := 0) rfl rfl ?_ rfl ?_
  · with_reducible exact drew_blk (set11 Hf1.out _ _ _ _ _ _ _ _ _ _ _)
  · refine Says.wrap (r := Rsp.no) (v := .slice Option.none 0 0) Hh.out Hb1.out (l := [w.heap.size + 1]) (fun g hg => by rw [List.mem_singleton.1 hg]; exact ⟨by omega, lt_of_block Hf1.out⟩) (Own.nil _ _ _ _ _) ((Hh.out.below Hb1.out).below (Below.refl _ _).drew) (Turn.of_below B (Below.refl _ _).drew) (fun g hg => by cases hg) ?_ rfl
    with_reducible exact chg_drew2 (chg11 _ _ _ _ _ _ _ _ _ _ _)
end Go.Proofs.Ytaicecnfodhlcaa
/- read of a scan. -/
set_option linter.unusedVariables false
set_option linter.unusedSimpArgs false
namespace Go.Proofs.Ytaicecnfodhlcaa
open Go.RowKit Go.Deep

abbrev resp1 (v : Value) : Obj := .cells (respL 1 0 0 0 v 0 0 0 0 0 0) 41
theorem run_resl (oa : Option Addr) (n oc : Nat) (m : Int) (W : World) (ha : oa = none ∨ ∃ g, oa = some ⟨g, 0, none⟩) (h0 : 0 ≤ m) (hm : m ≤ (oc : Int)) :
    (Instr.slice 37 (.slice oa n oc) none (some (.int .i64 m)) none).run Try.prog W = .ok (.slice oa m.toNat oc) W := by
  have hs : (sizeOf 53).run Try.prog W = .ok 7 W := by kernel_rfl
  have he : (if oc = 0 then oa else oa.map (·.add (0 * 7))) = oa := by
    rcases ha with rfl | ⟨g, rfl⟩
    · simp
    · split <;> rfl
  simp [Instr.slice, Instr.sliceBounds, Instr.sliceBound, run_underlying Try.underlying37, asIntOf, Result.andThen, h0, hm, hs]
  simpa using he
theorem Own.from0 {α : Type} {E sz B n cap : Nat} {o : Option Addr} {enc : α → List Value} {w : World} {xs : List α} (h : Own E sz enc B w (.slice o n cap) xs) : o = none ∨ ∃ g, o = some ⟨g, 0, none⟩ := by
  rcases h.2 with ⟨he, _⟩ | ⟨g, c, cur, he, _⟩
  · injection he with e1; exact .inl e1
  · injection he with e1; exact .inr ⟨g, e1⟩
theorem scan_len (L : List Rw) (f t : Cell) {lim : Int} (hl : 1 ≤ lim) : (scanRows L f t lim).length = min (L.filter fun r => scanP f t r.cell).length lim.toNat := by
  unfold scanRows
  rw [List.length_take, Nat.min_comm]
set_option maxRecDepth 100000 in
set_option maxHeartbeats 8000000 in
theorem read_scan0 {w : World} {B : MB} {S : Mst} (h : IsModel w B S) (s i ep : Int) (qa : Option Addr) (qn qc : Nat) (f t : Cell) (lim : Int) (hl1 : 1 ≤ lim) (hl2 : lim ≤ 256) (hmax : S.L.length ≤ 100000000) (hn : S.now < 1099511627776) :
    Calls Try.prog 35 #[.pointer (some ⟨B.mp, 0, none⟩), .int .i64 s, .agg #[.int .i64 3, .int .i64 i, .int .i64 0, .slice qa qn qc, .int .i64 f.v, .string f.k, .int .i64 f.s, .int .i64 t.v, .string t.k, .int .i64 t.s, .int .i64 lim]] w
      (Says w B (S.sealed, 0, ⟨1, 0, 0, 0, scanRows S.L f t lim, 0, 0, 0, 0, 0, 0⟩)) := by
  have hb1 : Below w.heap.size w ((w.alloc (.cells #[.int .i64 3, .int .i64 i, .int .i64 0, .slice qa qn qc, .int .i64 f.v, .string f.k, .int .i64 f.s, .int .i64 t.v, .string t.k, .int .i64 t.s, .int .i64 lim] 48)).alloc respO) := ((Below.refl _ _).alloc (Nat.le_refl _) _).alloc (by simp) _
  have hf1 : ((w.alloc (.cells #[.int .i64 3, .int .i64 i, .int .i64 0, .slice qa qn qc, .int .i64 f.v, .string f.k, .int .i64 f.s, .int .i64 t.v, .string t.k, .int .i64 t.s, .int .i64 lim] 48)).alloc respO).heap[w.heap.size + 1]? = some respO := blk_at (by simp)
  have hq1 : ((w.alloc (.cells #[.int .i64 3, .int .i64 i, .int .i64 0, .slice qa qn qc, .int .i64 f.v, .string f.k, .int .i64 f.s, .int .i64 t.v, .string t.k, .int .i64 t.s, .int .i64 lim] 48)).alloc respO).heap[w.heap.size]? = some (.cells #[.int .i64 3, .int .i64 i, .int .i64 0, .slice qa qn qc, .int .i64 f.v, .string f.k, .int .i64 f.s, .int .i64 t.v, .string t.k, .int .i64 t.s, .int .i64 lim] 48 (0, 0)) := (blk_old (by simp)).trans (blk_at rfl)
  have hM1 := h.below hb1
  have hz1 : ((w.alloc (.cells #[.int .i64 3, .int .i64 i, .int .i64 0, .slice qa qn qc, .int .i64 f.v, .string f.k, .int .i64 f.s, .int .i64 t.v, .string t.k, .int .i64 t.s, .int .i64 lim] 48)).alloc respO).heap.size = w.heap.size + 2 := by simp
  have c12 := hM1.parts.pinS.2
  have Hh := Lib.hid h
  have Hb1 := Lib.hid hb1
  have Hf1 := Lib.hid hf1
  have Hq1 := Lib.hid hq1
  have HM1 := Lib.hid hM1
  have Hn := Lib.hid hn
  have Hl := Lib.hid (And.intro hl1 hl2)
  have Hrise := Lib.hid h.inv.rise
  have Hmax := Lib.hid hmax
  clear h hb1 hf1 hq1 hM1 hn hmax hl1 hl2
  go_enter Try.func35, Try.ntmps35
  go_wp2_with fail
  generalize hW2 : World.alloc _ (resp1 (.slice none 0 0)) = W2
  have hb2 : Below w.heap.size w W2 := by rw [← hW2]; exact Hb1.out.alloc Hb1.out.size _
  have r0 : W2.heap[w.heap.size]? = some (.cells #[.int .i64 3, .int .i64 i, .int .i64 0, .slice qa qn qc, .int .i64 f.v, .string f.k, .int .i64 f.s, .int .i64 t.v, .string t.k, .int .i64 t.s, .int .i64 lim] 48 (0, 0)) := by rw [← hW2]; exact (blk_old (by simp; omega)).trans Hq1.out
  have r1 : W2.heap[w.heap.size + 1]? = some respO := by rw [← hW2]; exact (blk_old (by simp)).trans Hf1.out
  have r2 : W2.heap[w.heap.size + 2]? = some (resp1 (.slice none 0 0)) := by rw [← hW2]; exact blk_at (by simp)
  clear hW2
  have hmp : B.mp < w.heap.size := Hh.out.lt _ (by rw [Hh.out.obj.lb]; simp)
  refine (seal_ok (Hh.out.below hb2) Hn.out).mono ?_
  rintro e w3 ⟨rfl, hM3, hc3⟩
  have s0 := (hc3.block _ (lt_of_block r0) (by simp; omega)).trans r0
  have s1 := (hc3.block _ (lt_of_block r1) (by simp; omega)).trans r1
  have s2 := (hc3.block _ (lt_of_block r2) (by simp; omega)).trans r2
  have hT3 : Turn W2 w3 B B := Turn.of_chg hc3 (fun g hg => by rw [List.mem_singleton.1 hg, Hh.out.obj.lb]; simp)
  have l2 := lt_of_block r2
  have l3 := lt_of_block s2
  have HM3 := Lib.hid hM3
  have HT3 := Lib.hid hT3
  have Hb2 := Lib.hid hb2
  have Hs0 := Lib.hid s0
  have Hs1 := Lib.hid s1
  have Hs2 := Lib.hid s2
  clear c12 hM3 hc3 hT3 hb2 s0 s1 s2 r0 r1 r2
  go_wp2_with fail
  refine (rows_scan B.bt S.L w.heap.size f t 3 i 0 qa qn qc lim w3 HM3.out.there.map Hrise.out Hmax.out (by omega) Hs0).mono ?_
  rintro e w4 ⟨v4, rfl, ho4, hb4⟩
  obtain ⟨oa, oc, rfl, hcap4, _, _, _⟩ := ho4.sl fun _ => rfl
  have t0 := (hb4.block _ (lt_of_block Hs0.out)).trans Hs0.out
  have t1 := (hb4.block _ (lt_of_block Hs1.out)).trans Hs1.out
  have t2 := (hb4.block _ (lt_of_block Hs2.out)).trans Hs2.out
  have y10 := cell_blk t0 10
  simp at y10
  have rf2 := frozen_blk t2
  have rf1 := frozen_blk t1
  have x0 := cell_blk t2 0
  have x1 := cell_blk t2 1
  have x2 := cell_blk t2 2
  have x3 := cell_blk t2 3
  have x4 := cell_blk t2 4
  have x5 := cell_blk t2 5
  have x6 := cell_blk t2 6
  have x7 := cell_blk t2 7
  have x8 := cell_blk t2 8
  have x9 := cell_blk t2 9
  have x10 := cell_blk t2 10
  simp at x0 x1 x2 x3 x4 x5 x6 x7 x8 x9 x10
  have z0 := cell_blk t1 0
  have z1 := cell_blk t1 1
  have z2 := cell_blk t1 2
  have z3 := cell_blk t1 3
  have z4 := cell_blk t1 4
  have z5 := cell_blk t1 5
  have z6 := cell_blk t1 6
  have z7 := cell_blk t1 7
  have z8 := cell_blk t1 8
  have z9 := cell_blk t1 9
  have z10 := cell_blk t1 10
  simp at z0 z1 z2 z3 z4 z5 z6 z7 z8 z9 z10
  have Ho4 := Lib.hid ho4
  have Hb4 := Lib.hid hb4
  have Ht1 := Lib.hid t1
  have Ht2 := Lib.hid t2
  have hlen := scan_len S.L f t Hl.out.1
  have Hlen := Lib.hid hlen
  clear t0 t1 t2 ho4 hb4 hlen
  have hrs := fun (m : Int) h0 hm => run_resl oa (List.filter (fun r => scanP f t r.cell) S.L).length oc m w4 (Own.from0 Ho4.out) h0 hm
  generalize hnE : (List.filter (fun r => scanP f t r.cell) S.L).length = n at *
  have HnE := Lib.hid hnE
  clear hnE
  obtain ⟨lim, rfl⟩ := Int.eq_ofNat_of_zero_le (by have := Hl.out.1; omega : 0 ≤ lim)
  have hr := hrs (min (n : Int) (lim : Int)) (by omega) (by omega)
  clear hrs
  have hown3 : Own 53 7 rowL w3.heap.size w4 (.slice oa (min (n : Int) (lim : Int)).toNat oc) (scanRows S.L f t (lim : Int)) := by
    have h1 := Own.takeS (sz := 7) (enc := rowL) (fun _ => rfl) Ho4.out HnE.out.symm (min (n : Int) (lim : Int)).toNat (by omega)
    unfold scanRows
    by_cases hm : n ≤ lim
    · rw [List.take_of_length_le (by rw [HnE.out]; simpa using hm)]
      rw [List.take_of_length_le (by rw [HnE.out]; omega)] at h1
      exact h1
    · have e1 : (min (n : Int) (lim : Int)).toNat = lim := by omega
      rw [e1] at h1 ⊢
      simpa using h1
  have Hown3 := Lib.hid hown3
  clear hown3
  go_wp2_with fail
  refine bodyPost_resp (g := w.heap.size + 1) (k := 1) (i := 0) (er := 0) (ep := 0) (rows := .slice oa (min (n : Int) (lim : Int)).toNat oc) (t := 0) (l := 0) (o := 0) (f := 0) (c := 0) (n := 0) rfl rfl ?_ rfl ?_
  · with_reducible exact set11 (blk_set Ht1.out (by omega)) _ _ _ _ _ _ _ _ _ _ _
  · refine Says.wrap (r := ⟨1, 0, 0, 0, scanRows S.L f t (lim : Int), 0, 0, 0, 0, 0, 0⟩) (v := .slice oa (min (n : Int) (lim : Int)).toNat oc) Hh.out Hb2.out (l := [w.heap.size + 1, w.heap.size + 2]) ?_ (Hown3.out.mono HT3.out.chg.size) (HM3.out.below Hb4.out) (HT3.out.trans (Turn.of_below B Hb4.out)) ?_ ?_ rfl
    · intro g hg
      simp at hg
      omega
    · intro g hg
      refine Decidable.byContradiction fun hn => ?_
      have h1 := HM3.out.lt g hn
      have h2 := (Hown3.out.ge hg).1
      omega
    · refine Chg.trans (b := w4.setCell ⟨w.heap.size + 2, 4, none⟩ (.slice oa (min (n : Int) (lim : Int)).toNat oc)) (Chg.set _ (a := ⟨w.heap.size + 2, 4, none⟩) (by simp) _) ?_
      refine Chg.mono (l := [w.heap.size + 1]) ?_ (by simp)
      with_reducible exact chg11 _ _ _ _ _ _ _ _ _ _ _
set_option maxRecDepth 100000 in
set_option maxHeartbeats 8000000 in
theorem read_scanE {w : World} {B : MB} {S : Mst} (h : IsModel w B S) (s i ep : Int) (qa : Option Addr) (qn qc : Nat) (f t : Cell) (lim : Int) (hl1 : 1 ≤ lim) (hl2 : lim ≤ 256) (hep : ep ≠ 0) (hv : S.holds s ep = true) (L : List Rw) (hL : S.seals ep = some L) (hmax : L.length ≤ 100000000) :
    Calls Try.prog 35 #[.pointer (some ⟨B.mp, 0, none⟩), .int .i64 s, .agg #[.int .i64 3, .int .i64 i, .int .i64 ep, .slice qa qn qc, .int .i64 f.v, .string f.k, .int .i64 f.s, .int .i64 t.v, .string t.k, .int .i64 t.s, .int .i64 lim]] w
      (Says w B (S, 0, ⟨1, 0, 0, 0, scanRows L f t lim, 0, 0, 0, 0, 0, 0⟩)) := by
  have hb1 : Below w.heap.size w ((w.alloc (.cells #[.int .i64 3, .int .i64 i, .int .i64 ep, .slice qa qn qc, .int .i64 f.v, .string f.k, .int .i64 f.s, .int .i64 t.v, .string t.k, .int .i64 t.s, .int .i64 lim] 48)).alloc respO) := ((Below.refl _ _).alloc (Nat.le_refl _) _).alloc (by simp) _
  have hf1 : ((w.alloc (.cells #[.int .i64 3, .int .i64 i, .int .i64 ep, .slice qa qn qc, .int .i64 f.v, .string f.k, .int .i64 f.s, .int .i64 t.v, .string t.k, .int .i64 t.s, .int .i64 lim] 48)).alloc respO).heap[w.heap.size + 1]? = some respO := blk_at (by simp)
  have hq1 : ((w.alloc (.cells #[.int .i64 3, .int .i64 i, .int .i64 ep, .slice qa qn qc, .int .i64 f.v, .string f.k, .int .i64 f.s, .int .i64 t.v, .string t.k, .int .i64 t.s, .int .i64 lim] 48)).alloc respO).heap[w.heap.size]? = some (.cells #[.int .i64 3, .int .i64 i, .int .i64 ep, .slice qa qn qc, .int .i64 f.v, .string f.k, .int .i64 f.s, .int .i64 t.v, .string t.k, .int .i64 t.s, .int .i64 lim] 48 (0, 0)) := (blk_old (by simp)).trans (blk_at rfl)
  have hM1 := h.below hb1
  have hz1 : ((w.alloc (.cells #[.int .i64 3, .int .i64 i, .int .i64 ep, .slice qa qn qc, .int .i64 f.v, .string f.k, .int .i64 f.s, .int .i64 t.v, .string t.k, .int .i64 t.s, .int .i64 lim] 48)).alloc respO).heap.size = w.heap.size + 2 := by simp
  have c12 := hM1.parts.pinS.2
  have hepb : (ep != 0) = true := by simp [hep]
  have hepc : (ep == 0) = false := by simp [hep]
  have hsv : sealV B S ep = .map (some (B.sk ep)) := by unfold sealV; rw [hL]; rfl
  have hmapE : ∀ W, Below w.heap.size w W → HasMap W (B.sk ep) L := fun W hW => by
    obtain ⟨_, m, _, h1, _⟩ := (h.below hW).seals
    exact (h1 ep L hL).2.1
  have hrise := (h.inv.sok ep L hL).1
  have kA : ∀ W, Below w.heap.size w W → W.heap[w.heap.size]? = some (.cells #[.int .i64 3, .int .i64 i, .int .i64 ep, .slice qa qn qc, .int .i64 f.v, .string f.k, .int .i64 f.s, .int .i64 t.v, .string t.k, .int .i64 t.s, .int .i64 lim] 48 (0, 0)) → ∀ W', Below W.heap.size W W' → ReadA B.mp B.bh B.bs w.heap.size s ep (B.hk s) true (.map (some (B.sk ep))) W W' := by
    intro W hW hq W' hW'
    have hm := h.below (hW.trans (hW'.mono hW.size))
    have hq' := (hW'.block _ (lt_of_block hq)).trans hq
    have h1 := hm.holds.has s ep
    rw [hv] at h1
    exact ⟨hW', hm.parts.cell17, hm.parts.cell16, cell_blk hq' 2, hm.holds.get s, h1, by have := hm.seals.get ep false; rw [hsv] at this; simpa using this⟩
  have Hh := Lib.hid h
  have Hb1 := Lib.hid hb1
  have Hf1 := Lib.hid hf1
  have Hq1 := Lib.hid hq1
  have Hl := Lib.hid (And.intro hl1 hl2)
  have Hrise := Lib.hid hrise
  have Hmax := Lib.hid hmax
  have HmapE := Lib.hid hmapE
  have Hk := Lib.hid kA
  clear h hb1 hf1 hq1 hM1 hmax hl1 hl2 hv hL hsv hmapE hrise kA hep
  generalize B.hk s = hb at *
  generalize B.sk ep = bE at *
  go_enter Try.func35, Try.ntmps35
  go_wp2_with fail
  generalize hW1 : World.alloc _ respO = W1
  have e1 : (w.alloc (.cells #[.int .i64 3, .int .i64 i, .int .i64 ep, .slice qa qn qc, .int .i64 f.v, .string f.k, .int .i64 f.s, .int .i64 t.v, .string t.k, .int .i64 t.s, .int .i64 lim] 48)).alloc respO = W1 := hW1
  rw [e1] at Hb1 Hf1 Hq1 hz1
  have kD := Hk.out W1 Hb1.out Hq1.out _ (Below.refl _ _).drew
  clear c12 hW1 e1
  go_region_held3 (fun W => ReadA B.mp B.bh B.bs w.heap.size s ep hb true (.map (some bE)) W1 W) (first | exact kD | assumption) (fail)
  have kE := Hk.out W1 Hb1.out Hq1.out _ (Below.refl _ _).drew.drew
  go_wp2_with fail
  go_region_held3 (fun W => ReadA B.mp B.bh B.bs w.heap.size s ep hb true (.map (some bE)) W1 W) (first | exact kE | assumption) (fail)
  have y0 := cell_blk Hq1.out 0
  have y2 := cell_blk Hq1.out 2
  simp at y0 y2
  have lg : w.heap.size < W1.heap.size := by omega
  go_wp2_with fail
  generalize hW3 : (World.alloc W1 (resp1 (.slice none 0 0))).drew.drew = w3
  have hb3 : Below w.heap.size w w3 := by rw [← hW3]; exact (Hb1.out.alloc Hb1.out.size _).drew.drew
  have s0 : w3.heap[w.heap.size]? = some (.cells #[.int .i64 3, .int .i64 i, .int .i64 ep, .slice qa qn qc, .int .i64 f.v, .string f.k, .int .i64 f.s, .int .i64 t.v, .string t.k, .int .i64 t.s, .int .i64 lim] 48 (0, 0)) := by rw [← hW3]; exact drew_blk (drew_blk ((blk_old (by omega)).trans Hq1.out))
  have s1 : w3.heap[w.heap.size + 1]? = some respO := by rw [← hW3]; exact drew_blk (drew_blk ((blk_old (by omega)).trans Hf1.out))
  have s2 : w3.heap[w.heap.size + 2]? = some (resp1 (.slice none 0 0)) := by rw [← hW3]; exact drew_blk (drew_blk (blk_at (by omega)))
  have hT3 : Turn w3 w3 B B := Turn.of_below B (Below.refl _ _)
  have hM3 : IsModel w3 B S := Hh.out.below hb3
  have hmap3 := HmapE.out w3 hb3
  have l3 := lt_of_block s2
  have l2 := l3
  have HM3 := Lib.hid hM3
  have HT3 := Lib.hid hT3
  have Hb2 := Lib.hid hb3
  have Hmap3 := Lib.hid hmap3
  have Hs0 := Lib.hid s0
  have Hs1 := Lib.hid s1
  have Hs2 := Lib.hid s2
  clear hM3 hT3 hb3 hmap3 s0 s1 s2 hW3 y0 y2 kD kE lg hz1
  refine (rows_scan bE L w.heap.size f t 3 i ep qa qn qc lim w3 Hmap3.out Hrise.out Hmax.out (by omega) Hs0).mono ?_
  rintro e w4 ⟨v4, rfl, ho4, hb4⟩
  obtain ⟨oa, oc, rfl, hcap4, _, _, _⟩ := ho4.sl fun _ => rfl
  have t0 := (hb4.block _ (lt_of_block Hs0.out)).trans Hs0.out
  have t1 := (hb4.block _ (lt_of_block Hs1.out)).trans Hs1.out
  have t2 := (hb4.block _ (lt_of_block Hs2.out)).trans Hs2.out
  have y10 := cell_blk t0 10
  simp at y10
  have rf2 := frozen_blk t2
  have rf1 := frozen_blk t1
  have x0 := cell_blk t2 0
  have x1 := cell_blk t2 1
  have x2 := cell_blk t2 2
  have x3 := cell_blk t2 3
  have x4 := cell_blk t2 4
  have x5 := cell_blk t2 5
  have x6 := cell_blk t2 6
  have x7 := cell_blk t2 7
  have x8 := cell_blk t2 8
  have x9 := cell_blk t2 9
  have x10 := cell_blk t2 10
  simp at x0 x1 x2 x3 x4 x5 x6 x7 x8 x9 x10
  have z0 := cell_blk t1 0
  have z1 := cell_blk t1 1
  have z2 := cell_blk t1 2
  have z3 := cell_blk t1 3
  have z4 := cell_blk t1 4
  have z5 := cell_blk t1 5
  have z6 := cell_blk t1 6
  have z7 := cell_blk t1 7
  have z8 := cell_blk t1 8
  have z9 := cell_blk t1 9
  have z10 := cell_blk t1 10
  simp at z0 z1 z2 z3 z4 z5 z6 z7 z8 z9 z10
  have Ho4 := Lib.hid ho4
  have Hb4 := Lib.hid hb4
  have Ht1 := Lib.hid t1
  have Ht2 := Lib.hid t2
  have hlen := scan_len L f t Hl.out.1
  have Hlen := Lib.hid hlen
  clear t0 t1 t2 ho4 hb4 hlen
  have hrs := fun (m : Int) h0 hm => run_resl oa (List.filter (fun r => scanP f t r.cell) L).length oc m w4 (Own.from0 Ho4.out) h0 hm
  generalize hnE : (List.filter (fun r => scanP f t r.cell) L).length = n at *
  have HnE := Lib.hid hnE
  clear hnE
  obtain ⟨lim, rfl⟩ := Int.eq_ofNat_of_zero_le (by have := Hl.out.1; omega : 0 ≤ lim)
  have hr := hrs (min (n : Int) (lim : Int)) (by omega) (by omega)
  clear hrs
  have hown3 : Own 53 7 rowL w3.heap.size w4 (.slice oa (min (n : Int) (lim : Int)).toNat oc) (scanRows L f t (lim : Int)) := by
    have h1 := Own.takeS (sz := 7) (enc := rowL) (fun _ => rfl) Ho4.out HnE.out.symm (min (n : Int) (lim : Int)).toNat (by omega)
    unfold scanRows
    by_cases hm : n ≤ lim
    · rw [List.take_of_length_le (by rw [HnE.out]; simpa using hm)]
      rw [List.take_of_length_le (by rw [HnE.out]; omega)] at h1
      exact h1
    · have e1 : (min (n : Int) (lim : Int)).toNat = lim := by omega
      rw [e1] at h1 ⊢
      simpa using h1
  have Hown3 := Lib.hid hown3
  clear hown3
  go_wp2_with fail
  refine bodyPost_resp (g := w.heap.size + 1) (k := 1) (i := 0) (er := 0) (ep := 0) (rows := .slice oa (min (n : Int) (lim : Int)).toNat oc) (t := 0) (l := 0) (o := 0) (f := 0) (c := 0) (n := 0) rfl rfl ?_ rfl ?_
  · with_reducible exact set11 (blk_set Ht1.out (by omega)) _ _ _ _ _ _ _ _ _ _ _
  · refine Says.wrap (r := ⟨1, 0, 0, 0, scanRows L f t (lim : Int), 0, 0, 0, 0, 0, 0⟩) (v := .slice oa (min (n : Int) (lim : Int)).toNat oc) Hh.out Hb2.out (l := [w.heap.size + 1, w.heap.size + 2]) ?_ (Hown3.out.mono HT3.out.chg.size) (HM3.out.below Hb4.out) (HT3.out.trans (Turn.of_below B Hb4.out)) ?_ ?_ rfl
    · intro g hg
      simp at hg
      omega
    · intro g hg
      refine Decidable.byContradiction fun hn => ?_
      have h1 := HM3.out.lt g hn
      have h2 := (Hown3.out.ge hg).1
      omega
    · refine Chg.trans (b := w4.setCell ⟨w.heap.size + 2, 4, none⟩ (.slice oa (min (n : Int) (lim : Int)).toNat oc)) (Chg.set _ (a := ⟨w.heap.size + 2, 4, none⟩) (by simp) _) ?_
      refine Chg.mono (l := [w.heap.size + 1]) ?_ (by simp)
      with_reducible exact chg11 _ _ _ _ _ _ _ _ _ _ _
set_option maxRecDepth 100000 in
set_option maxHeartbeats 8000000 in
theorem read_full {w : World} {B : MB} {S : Mst} (h : IsModel w B S) (s i ep : Int) (qa : Option Addr) (qn qc : Nat) (f t : Cell) (lim : Int) (hl1 : 1 ≤ lim) (hl2 : lim ≤ 256) (hn : S.now = 1099511627776) :
    Calls Try.prog 35 #[.pointer (some ⟨B.mp, 0, none⟩), .int .i64 s, .agg #[.int .i64 3, .int .i64 i, .int .i64 0, .slice qa qn qc, .int .i64 f.v, .string f.k, .int .i64 f.s, .int .i64 t.v, .string t.k, .int .i64 t.s, .int .i64 lim]] w
      (Says w B (S, 2, Rsp.no)) := by
  have hb1 : Below w.heap.size w ((w.alloc (.cells #[.int .i64 3, .int .i64 i, .int .i64 0, .slice qa qn qc, .int .i64 f.v, .string f.k, .int .i64 f.s, .int .i64 t.v, .string t.k, .int .i64 t.s, .int .i64 lim] 48)).alloc respO) := ((Below.refl _ _).alloc (Nat.le_refl _) _).alloc (by simp) _
  have hf1 : ((w.alloc (.cells #[.int .i64 3, .int .i64 i, .int .i64 0, .slice qa qn qc, .int .i64 f.v, .string f.k, .int .i64 f.s, .int .i64 t.v, .string t.k, .int .i64 t.s, .int .i64 lim] 48)).alloc respO).heap[w.heap.size + 1]? = some respO := blk_at (by simp)
  have hq1 : ((w.alloc (.cells #[.int .i64 3, .int .i64 i, .int .i64 0, .slice qa qn qc, .int .i64 f.v, .string f.k, .int .i64 f.s, .int .i64 t.v, .string t.k, .int .i64 t.s, .int .i64 lim] 48)).alloc respO).heap[w.heap.size]? = some (.cells #[.int .i64 3, .int .i64 i, .int .i64 0, .slice qa qn qc, .int .i64 f.v, .string f.k, .int .i64 f.s, .int .i64 t.v, .string t.k, .int .i64 t.s, .int .i64 lim] 48 (0, 0)) := (blk_old (by simp)).trans (blk_at rfl)
  have hM1 := h.below hb1
  have hz1 : ((w.alloc (.cells #[.int .i64 3, .int .i64 i, .int .i64 0, .slice qa qn qc, .int .i64 f.v, .string f.k, .int .i64 f.s, .int .i64 t.v, .string t.k, .int .i64 t.s, .int .i64 lim] 48)).alloc respO).heap.size = w.heap.size + 2 := by simp
  have c12 := hM1.parts.pinS.2
  have Hh := Lib.hid h
  have Hb1 := Lib.hid hb1
  have Hf1 := Lib.hid hf1
  have Hn := Lib.hid hn
  clear h hb1 hf1 hq1 hM1 hn hl1 hl2
  go_enter Try.func35, Try.ntmps35
  go_wp2_with fail
  generalize hW2 : World.alloc _ (resp1 (.slice none 0 0)) = W2
  have hb2 : Below w.heap.size w W2 := by rw [← hW2]; exact Hb1.out.alloc Hb1.out.size _
  have r1 : W2.heap[w.heap.size + 1]? = some respO := by rw [← hW2]; exact (blk_old (by simp)).trans Hf1.out
  clear hW2
  refine (seal_full (Hh.out.below hb2) Hn.out).mono ?_
  rintro e w3 ⟨rfl, hw3⟩
  subst hw3
  have rf1 := frozen_blk r1
  have z0 := cell_blk r1 0
  have z1 := cell_blk r1 1
  have z2 := cell_blk r1 2
  have z3 := cell_blk r1 3
  have z4 := cell_blk r1 4
  have z5 := cell_blk r1 5
  have z6 := cell_blk r1 6
  have z7 := cell_blk r1 7
  have z8 := cell_blk r1 8
  have z9 := cell_blk r1 9
  have z10 := cell_blk r1 10
  simp at z0 z1 z2 z3 z4 z5 z6 z7 z8 z9 z10
  have Hb2 := Lib.hid hb2
  have Hr1 := Lib.hid r1
  clear hb2 r1 c12
  go_wp2_with fail
  refine bodyPost_resp (g := w.heap.size + 1) (k := 0) (i := 0) (er := 0) (ep := 0) (rows := .slice none 0 0) (t := 0) (l := 0) (o := 0) (f := 0) (c := 0) (n := 0) rfl rfl ?_ rfl ?_
  · with_reducible exact set11 Hr1.out _ _ _ _ _ _ _ _ _ _ _
  · refine Says.wrap (r := Rsp.no) (v := .slice Option.none 0 0) Hh.out Hb2.out (l := [w.heap.size + 1]) (fun g hg => by rw [List.mem_singleton.1 hg]; exact ⟨by omega, lt_of_block Hr1.out⟩) (Own.nil _ _ _ _ _) (Hh.out.below Hb2.out) (Turn.of_below B (Below.refl _ _)) (fun g hg => by cases hg) ?_ rfl
    with_reducible exact chg11 _ _ _ _ _ _ _ _ _ _ _
end Go.Proofs.Ytaicecnfodhlcaa
/- read of a scan, whatever the epoch. -/
set_option linter.unusedVariables false
set_option linter.unusedSimpArgs false
namespace Go.Proofs.Ytaicecnfodhlcaa
open Go.RowKit Go.Deep

theorem readScan_any {w : World} {B : MB} {S : Mst} (h : IsModel w B S) (s i ep : Int) (qa : Option Addr) (cells : List Cell) (qc : Nat) (f t : Cell) (lim : Int) (hl1 : 1 ≤ lim) (hl2 : lim ≤ 256) (hmax : S.L.length ≤ 100000000) (hmaxE : ∀ L, S.seals ep = some L → L.length ≤ 100000000) :
    Calls Try.prog 35 #[.pointer (some ⟨B.mp, 0, none⟩), .int .i64 s, .agg (Rq.at ⟨3, i, ep, cells, f, t, lim⟩ qa qc)] w (Says w B (S.read s ⟨3, i, ep, cells, f, t, lim⟩)) := by
  by_cases hep : ep = 0
  · subst hep
    by_cases hn : S.now = 1099511627776
    · have e : S.read s ⟨3, i, 0, cells, f, t, lim⟩ = (S, 2, Rsp.no) := by simp [Mst.read, Mst.readL, hn]
      rw [e]
      exact read_full h s i 0 qa cells.length qc f t lim hl1 hl2 hn
    · have e : S.read s ⟨3, i, 0, cells, f, t, lim⟩ = (S.sealed, 0, ⟨1, 0, 0, 0, scanRows S.L f t lim, 0, 0, 0, 0, 0, 0⟩) := by simp [Mst.read, Mst.readL, hn]
      rw [e]
      exact read_scan0 h s i 0 qa cells.length qc f t lim hl1 hl2 hmax (by have := h.inv.now.2; omega)
  · cases hv : S.holds s ep with
    | false =>
      have e : S.read s ⟨3, i, ep, cells, f, t, lim⟩ = (S, 33, Rsp.no) := by simp [Mst.read, Mst.readL, hep, hv]
      rw [e]
      exact read_none h s 3 i ep qa cells.length qc f t lim hep hv
    | true =>
      obtain ⟨L, hL⟩ := Option.isSome_iff_exists.1 ((h.inv.slk ep).2 ⟨s, hv⟩)
      have e : S.read s ⟨3, i, ep, cells, f, t, lim⟩ = (S, 0, ⟨1, 0, 0, 0, scanRows L f t lim, 0, 0, 0, 0, 0, 0⟩) := by simp [Mst.read, Mst.readL, hep, hv, hL]
      rw [e]
      exact read_scanE h s i ep qa cells.length qc f t lim hl1 hl2 hep hv L hL (hmaxE L hL)
end Go.Proofs.Ytaicecnfodhlcaa
/- Ask: a scan, a pin, a join, a release, the counts. -/
set_option linter.unusedVariables false
set_option linter.unusedSimpArgs false
namespace Go.Proofs.Ytaicecnfodhlcaa
open Go.RowKit Go.Deep

/-- What Ask does with a request that is right and not refused. -/
def Mst.inner (S : Mst) (s : Int) (q : Rq) : Mst × Int × Rsp :=
  if q.k = 4 then S.pin s else if q.k = 5 then S.join s q.ep else if q.k = 6 then S.release s q.ep else if q.k = 7 then S.told4 else S.read s q
def Mst.ask (S : Mst) (s : Int) (q : Rq) (r : Int) : Mst × Int × Rsp :=
  if s < 1 ∨ 64 < s then (S, 1, Rsp.no)
  else if chkRq q ≠ 0 then (S, chkRq q, Rsp.no)
  else if r ≠ 0 ∧ r ≠ 35 ∧ r ≠ 36 then (S, 1, Rsp.no)
  else if r ≠ 0 then (S, 0, Rsp.bad q.i r)
  else answered q.i (S.inner s q)
theorem Says.below {w w' : World} {B : MB} {S : Mst} {er k i re ep : Int} {e : Ending} (h : IsModel w B S) (he : e = .returned (.tuple #[respE k i re ep, .int .i64 er])) (hb : Below w.heap.size w w') : Says w B (S, er, ⟨k, i, re, ep, [], 0, 0, 0, 0, 0, 0⟩) e w' :=
  Says.none he (h.below hb) (Turn.of_below B hb)
/-- Ask, but for the inner answer. -/
theorem ask_over {w : World} {B : MB} {S : Mst} (h : IsModel w B S) (s : Int) (q : Rq) (qa : Option Addr) (qc : Nat) (r : Int) (hq : Sl 3 cellL w qa q.cells) (hl : q.cells.length ≤ 1000000000)
    (hin : 1 ≤ s → s ≤ 64 → chkRq q = 0 → r = 0 → Calls Try.prog 12 #[.pointer (some ⟨B.mp, 0, none⟩), .int .i64 s, .agg (q.at qa qc), .int .i64 0] w (Says w B (answered q.i (S.inner s q)))) :
    Calls Try.prog 12 #[.pointer (some ⟨B.mp, 0, none⟩), .int .i64 s, .agg (q.at qa qc), .int .i64 r] w (Says w B (S.ask s q r)) := by
  have hchk := fun W (hW : Below w.heap.size w W) => chkRq_any q qa qc W (hq.below hW) hl
  unfold Mst.ask
  by_cases h1 : s < 1 ∨ 64 < s
  · rw [if_pos h1]
    refine (ask_session B.mp s r q.k q.i q.ep qa q.cells.length qc q.f.v q.f.k q.f.s q.t.v q.t.k q.t.s q.lim w h1).mono ?_
    rintro e w' ⟨he, hb⟩
    exact Says.below h he hb
  · rw [if_neg h1]
    by_cases h2 : chkRq q = 0
    · rw [if_neg (by simp [h2])]
      rw [h2] at hchk
      by_cases h3 : r = 0
      · subst h3
        rw [if_neg (by simp), if_neg (by simp)]
        exact hin (by omega) (by omega) h2 rfl
      · by_cases h4 : r = 35 ∨ r = 36
        · rw [if_neg (by omega), if_pos h3]
          refine (ask_refused B.mp s r q.k q.i q.ep qa q.cells.length qc q.f.v q.f.k q.f.s q.t.v q.t.k q.t.s q.lim w (by omega) (by omega) h4 hchk).mono ?_
          rintro e w' ⟨he, hb⟩
          exact Says.below h he hb
        · rw [if_pos (by omega)]
          refine (ask_strange B.mp s r q.k q.i q.ep qa q.cells.length qc q.f.v q.f.k q.f.s q.t.v q.t.k q.t.s q.lim w (by omega) (by omega) h3 (by omega) (by omega) hchk).mono ?_
          rintro e w' ⟨he, hb⟩
          exact Says.below h he hb
    · rw [if_pos h2]
      refine (ask_wrong B.mp s r (chkRq q) q.k q.i q.ep qa q.cells.length qc q.f.v q.f.k q.f.s q.t.v q.t.k q.t.s q.lim w (by omega) (by omega) h2 hchk).mono ?_
      rintro e w' ⟨he, hb⟩
      exact Says.below h he hb
/-- A request of a kind that is no Get, no Multi. -/
theorem ask_most {w : World} {B : MB} {S : Mst} (h : IsModel w B S) (s : Int) (q : Rq) (qa : Option Addr) (qc : Nat) (hq : Sl 3 cellL w qa q.cells) (hl : q.cells.length ≤ 1000000000) (hk : q.k ≠ 1 ∧ q.k ≠ 2) (hs1 : 1 ≤ s) (hs2 : s ≤ 64) (hc : chkRq q = 0)
    (hmax : S.L.length ≤ 100000000) (hmaxE : ∀ L, S.seals q.ep = some L → L.length ≤ 100000000) :
    Calls Try.prog 12 #[.pointer (some ⟨B.mp, 0, none⟩), .int .i64 s, .agg (q.at qa qc), .int .i64 0] w (Says w B (answered q.i (S.inner s q))) := by
  have hchk := fun W (hW : Below w.heap.size w W) => chkRq_any q qa qc W (hq.below hW) hl
  rw [hc] at hchk
  obtain ⟨k, i, ep, cells, f, t, lim⟩ := q
  have hk17 : 1 ≤ k ∧ k ≤ 7 := by
    refine Decidable.byContradiction fun hn => ?_
    unfold chkRq at hc
    rw [if_pos (by show k < 1 ∨ 7 < k; omega)] at hc
    cases hc
  obtain ⟨hk1, hk2⟩ := hk
  dsimp only at hk1 hk2
  by_cases h3 : k = 3
  · subst h3
    have hlim : 1 ≤ lim ∧ lim ≤ 256 := by
      refine Decidable.byContradiction fun hn => ?_
      unfold chkRq at hc
      rw [if_neg (by simp)] at hc
      split at hc
      · cases hc
      · rw [if_neg (by simp), if_pos (by simp)] at hc
        split at hc
        · rename_i h5 h6; exact h6 hc
        · split at hc
          · rename_i h5 h6 h7; exact h7 hc
          · rw [if_pos (by show lim < 1 ∨ 256 < lim; omega)] at hc
            cases hc
    exact ask_3 h s i ep qa cells.length qc f.v f.k f.s t.v t.k t.s lim hs1 hs2 (S.read s ⟨3, i, ep, cells, f, t, lim⟩) hchk
      (fun W hW hM b0 b1 b2 => clos4_any hM w.heap.size (w.heap.size + 1) (w.heap.size + 1 + 1) s 3 i ep qa cells.length qc f.v f.k f.s t.v t.k t.s lim _ b0 b1 b2 (fun W2 hW2 => readScan_any (hM.below hW2) s i ep qa cells qc f t lim hlim.1 hlim.2 hmax hmaxE))
  · by_cases h4 : k = 4
    · subst h4
      exact ask_4 h s i ep qa cells.length qc f.v f.k f.s t.v t.k t.s lim hs1 hs2 (S.pin s) hchk
        (fun W hW hM b0 b1 b2 => ask5_any hM w.heap.size (w.heap.size + 1) s (cell_blk b0 0) (cell_blk b1 0) (lt_of_block b0) (lt_of_block b1) hs1 hs2)
    · by_cases h5 : k = 5
      · subst h5
        exact ask_5 h s i ep qa cells.length qc f.v f.k f.s t.v t.k t.s lim hs1 hs2 (S.join s ep) hchk
          (fun W hW hM b0 b1 b2 => clos6_any hM w.heap.size (w.heap.size + 1) (w.heap.size + 1 + 1) s 5 i ep qa cells.length qc f.v f.k f.s t.v t.k t.s lim _ b0 b1 b2 (fun W2 hW2 => join_any (hM.below hW2) s ep hs1 hs2))
      · by_cases h6 : k = 6
        · subst h6
          exact ask_6 h s i ep qa cells.length qc f.v f.k f.s t.v t.k t.s lim hs1 hs2 (S.release s ep) hchk
            (fun W hW hM b0 b1 b2 => clos7_any hM w.heap.size (w.heap.size + 1) (w.heap.size + 1 + 1) s 6 i ep qa cells.length qc f.v f.k f.s t.v t.k t.s lim _ b0 b1 b2 (fun W2 hW2 => release_any (hM.below hW2) s ep))
        · have h7 : k = 7 := by omega
          subst h7
          exact ask_7 h s i ep qa cells.length qc f.v f.k f.s t.v t.k t.s lim hs1 hs2 S.told4 hchk
            (fun W hW hM b0 b1 b2 => clos8_any hM w.heap.size b0)
end Go.Proofs.Ytaicecnfodhlcaa
