/- CheckRequest. -/
import Derived.Test.YtaicecnfodhlcaaJ12
set_option linter.unusedVariables false
set_option linter.unusedSimpArgs false
namespace Go.Proofs.Ytaicecnfodhlcaa
open Go.RowKit Go.Deep

theorem ta_hit {P : Program} {t xT : TypeId} {fs : Array Field} (hu : P.underlying t = some (.struct fs)) (v : Value) (w : World) : (Instr.typeAssert (.iface t v) xT t true).run P w = .ok (.tuple #[v, .bool true]) w := by
  simp [Instr.typeAssert, run_underlying hu, Result.andThen]
theorem ta_miss {P : Program} {t a xT : TypeId} {fs : Array Field} {z : Value} (hu : P.underlying a = some (.struct fs)) (hne : t ≠ a) (v : Value) (w : World) (hz : (zeroValue a).run P w = .ok z w) : (Instr.typeAssert (.iface t v) xT a true).run P w = .ok (.tuple #[z, .bool false]) w := by
  simp [Instr.typeAssert, run_underlying hu, Result.andThen, hne, hz]
/-- The request that has alone what is asked. -/
def Rq.own (q : Rq) : Rq :=
  if q.k = 1 ∨ q.k = 2 then { q with f := ⟨0, ByteArray.empty, 0⟩, t := ⟨0, ByteArray.empty, 0⟩, lim := 0 }
  else if q.k = 3 then { q with cells := [] }
  else if q.k = 5 ∨ q.k = 6 then ⟨q.k, q.i, q.ep, [], ⟨0, ByteArray.empty, 0⟩, ⟨0, ByteArray.empty, 0⟩, 0⟩
  else ⟨q.k, q.i, 0, [], ⟨0, ByteArray.empty, 0⟩, ⟨0, ByteArray.empty, 0⟩, 0⟩
/-- What is wrong with the first of the cells that is wrong. -/
def cellsE : List Cell → Int
  | [] => 0
  | c :: l => if placeE c 3 1 = 0 then cellsE l else placeE c 3 1
theorem cellsE_first {l : List Cell} {j : Nat} (hj : j < l.length) (h : ∀ q (hq : q < l.length), q < j → placeE l[q] 3 1 = 0) (hn : placeE l[j] 3 1 ≠ 0) : cellsE l = placeE l[j] 3 1 := by
  induction l generalizing j with
  | nil => simp at hj
  | cons c l ih =>
    unfold cellsE
    cases j with
    | zero =>
      have h0 : placeE c 3 1 ≠ 0 := hn
      rw [if_neg h0]
      rfl
    | succ j =>
      have h0 : placeE c 3 1 = 0 := h 0 (by simp) (by omega)
      rw [if_pos h0]
      exact ih (by simpa using hj) (fun q hq hqj => h (q + 1) (by simpa using hq) (by omega)) hn
theorem cellsE_none {l : List Cell} (h : ∀ q (hq : q < l.length), placeE l[q] 3 1 = 0) : cellsE l = 0 := by
  induction l with
  | nil => rfl
  | cons c l ih =>
    unfold cellsE
    have h0 : placeE c 3 1 = 0 := h 0 (by simp)
    rw [if_pos h0]
    exact ih fun q hq => h (q + 1) (by simpa using hq)
/-- What is wrong with a request. -/
def chkRq (q : Rq) : Int :=
  if q.k < 1 ∨ 7 < q.k then 15
  else if isSmall q.i = false ∨ sameRq q q.own = false ∨ isSmall q.ep = false then 16
  else if q.k = 1 ∨ q.k = 2 then (if q.cells.length = 0 ∨ (q.k = 1 ∧ q.cells.length ≠ 1) then 16 else if 16 < q.cells.length then 2 else cellsE q.cells)
  else if q.k = 3 then (if placeE q.f 4 0 ≠ 0 then placeE q.f 4 0 else if placeE q.t 4 0 ≠ 0 then placeE q.t 4 0 else if q.lim < 1 ∨ 256 < q.lim then 2 else 0)
  else if q.k = 5 ∨ q.k = 6 then (if q.ep = 0 then 16 else 0)
  else 0

set_option maxRecDepth 100000 in
set_option maxHeartbeats 8000000 in
theorem check_4 (i ep : Int) (cells : List Cell) (f t : Cell) (lim : Int) (pa : Option Addr) (ca : Nat) (w : World) (hs : Sl 3 cellL w pa cells) (hl : cells.length ≤ 1000000000) :
    Calls Try.prog 32 #[.agg (Rq.at ⟨4, i, ep, cells, f, t, lim⟩ pa ca)] w fun e w' => e = .returned (.int .i64 (chkRq ⟨4, i, ep, cells, f, t, lim⟩)) ∧ Below w.heap.size w w' := by
  have hb0 : Below w.heap.size w (w.alloc (.cells (Rq.at ⟨4, i, ep, cells, f, t, lim⟩ pa ca) 48)) := (Below.refl _ _).alloc (Nat.le_refl _) _
  have hf0 : (w.alloc (.cells (Rq.at ⟨4, i, ep, cells, f, t, lim⟩ pa ca) 48)).heap[w.heap.size]? = some (.cells (Rq.at ⟨4, i, ep, cells, f, t, lim⟩ pa ca) 48 (0, 0)) := blk_at rfl
  have hv : ∀ x, chkRq ⟨4, i, ep, cells, f, t, lim⟩ = x → chkRq ⟨4, i, ep, cells, f, t, lim⟩ = x := fun x h => h
  have how : Rq.own ⟨4, i, ep, cells, f, t, lim⟩ = ⟨4, i, 0, [], ⟨0, ByteArray.empty, 0⟩, ⟨0, ByteArray.empty, 0⟩, 0⟩ := by unfold Rq.own; simp
  have hask := fun W => asks_4 i ep cells f t lim pa ca W
  have hsame := fun W (hW : Below w.heap.size w W) => same_any ⟨4, i, ep, cells, f, t, lim⟩ ⟨4, i, 0, [], ⟨0, ByteArray.empty, 0⟩, ⟨0, ByteArray.empty, 0⟩, 0⟩ pa none ca 0 W (hs.below hW) (Sl.nil _ _ _ _) hl
  have hq : sameRq ⟨4, i, ep, cells, f, t, lim⟩ (Rq.own ⟨4, i, ep, cells, f, t, lim⟩) = sameRq ⟨4, i, ep, cells, f, t, lim⟩ ⟨4, i, 0, [], ⟨0, ByteArray.empty, 0⟩, ⟨0, ByteArray.empty, 0⟩, 0⟩ := by rw [how]
  generalize hsm : sameRq ⟨4, i, ep, cells, f, t, lim⟩ ⟨4, i, 0, [], ⟨0, ByteArray.empty, 0⟩, ⟨0, ByteArray.empty, 0⟩, 0⟩ = sm at *
  have Hb0 := Lib.hid hb0
  have Hf0 := Lib.hid hf0
  have Hask := Lib.hid hask
  have Hsame := Lib.hid hsame
  have Hq := Lib.hid hq
  have Hs := Lib.hid hs
  clear hb0 hf0 hv how hask hsame hq hsm hs
  have tacells := fun W => ta_miss (P := Try.prog) (t := 153) (xT := 20) (z := .agg #[.int .i64 0, .slice none 0 0]) Try.underlying133 (by decide) (.agg #[]) W (by kernel_rfl)
  have tascan := fun W => ta_miss (P := Try.prog) (t := 153) (xT := 20) (z := .agg #[.int .i64 0, .int .i64 0, .string ByteArray.empty, .int .i64 0, .int .i64 0, .string ByteArray.empty, .int .i64 0, .int .i64 0]) Try.underlying135 (by decide) (.agg #[]) W (by kernel_rfl)
  have taepoch := fun W => ta_miss (P := Try.prog) (t := 153) (xT := 20) (z := .agg #[.int .i64 0]) Try.underlying137 (by decide) (.agg #[]) W (by kernel_rfl)
  go_enter Try.func32, Try.ntmps32
  go_wp2_with fail
  refine (Hask.out _).mono ?_
  rintro e w1 ⟨rfl, hb1⟩
  have hz1 : w.heap.size < w1.heap.size := by have := hb1.size; simp at this; omega
  have hf1 := (hb1.block _ (by simp)).trans Hf0.out
  have hb1' := Hb0.out.trans (hb1.mono Hb0.out.size)
  have hb2 : Below w.heap.size w (w1.alloc (.cells (Rq.at ⟨4, i, 0, [], ⟨0, ByteArray.empty, 0⟩, ⟨0, ByteArray.empty, 0⟩, 0⟩ none 0) 48)) := hb1'.alloc hb1'.size _
  have hf2 : (w1.alloc (.cells (Rq.at ⟨4, i, 0, [], ⟨0, ByteArray.empty, 0⟩, ⟨0, ByteArray.empty, 0⟩, 0⟩ none 0) 48)).heap[w.heap.size]? = some (.cells (Rq.at ⟨4, i, ep, cells, f, t, lim⟩ pa ca) 48 (0, 0)) := (blk_old hz1).trans hf1
  have hg2 : (w1.alloc (.cells (Rq.at ⟨4, i, 0, [], ⟨0, ByteArray.empty, 0⟩, ⟨0, ByteArray.empty, 0⟩, 0⟩ none 0) 48)).heap[w1.heap.size]? = some (.cells (Rq.at ⟨4, i, 0, [], ⟨0, ByteArray.empty, 0⟩, ⟨0, ByteArray.empty, 0⟩, 0⟩ none 0) 48 (0, 0)) := blk_at rfl
  have q1 := cell_blk hf1 1
  simp at q1
  simp only [Rq.at, List.length_nil] at hb2 hf2 hg2
  have Hb2 := Lib.hid hb2
  have Hf2 := Lib.hid hf2
  have Hg2 := Lib.hid hg2
  clear hb1 hb1' hf1 hb2 hf2 hg2
  go_wp2_with fail
  clear q1
  generalize hW2 : World.alloc w1 _ = W2 at *
  have Hw2 := Lib.hid hW2
  clear hW2
  refine (small_any i _).mono ?_
  rintro e w2 ⟨rfl, rfl⟩
  cases hsi : isSmall i
  · have hv : chkRq ⟨4, i, ep, cells, f, t, lim⟩ = 16 := by unfold chkRq; rw [if_neg (by simp), if_pos (.inl hsi)]
    have Hv := Lib.hid hv
    clear hv hsi
    go_wp2_with fail
    go_ret
    rw [Hv.out]
    exact ⟨rfl, Hb2.out⟩
  · have Hsi := Lib.hid hsi
    clear hsi
    have q0 := cell_blk Hf2.out 0
    have q1 := cell_blk Hf2.out 1
    have q2 := cell_blk Hf2.out 2
    have q3 := cell_blk Hf2.out 3
    have q4 := cell_blk Hf2.out 4
    have q5 := cell_blk Hf2.out 5
    have q6 := cell_blk Hf2.out 6
    have q7 := cell_blk Hf2.out 7
    have q8 := cell_blk Hf2.out 8
    have q9 := cell_blk Hf2.out 9
    have q10 := cell_blk Hf2.out 10
    have r0 := cell_blk Hg2.out 0
    have r1 := cell_blk Hg2.out 1
    have r2 := cell_blk Hg2.out 2
    have r3 := cell_blk Hg2.out 3
    have r4 := cell_blk Hg2.out 4
    have r5 := cell_blk Hg2.out 5
    have r6 := cell_blk Hg2.out 6
    have r7 := cell_blk Hg2.out 7
    have r8 := cell_blk Hg2.out 8
    have r9 := cell_blk Hg2.out 9
    have r10 := cell_blk Hg2.out 10
    simp at q0 q1 q2 q3 q4 q5 q6 q7 q8 q9 q10 r0 r1 r2 r3 r4 r5 r6 r7 r8 r9 r10
    go_wp2_with fail
    refine (Hsame.out _ Hb2.out).mono ?_
    rintro e w3 ⟨rfl, hb3⟩
    have hz3 := hb3.size
    have hl2 := lt_of_block Hf2.out
    have hl3 : w.heap.size < w3.heap.size := by omega
    have Hf3 := Lib.hid ((hb3.block _ hl2).trans Hf2.out)
    have Hb3 := Lib.hid (Hb2.out.trans (hb3.mono Hb2.out.size))
    clear hb3 q0 q1 q2 q3 q4 q5 q6 q7 q8 q9 q10 r0 r1 r2 r3 r4 r5 r6 r7 r8 r9 r10
    cases sm
    · have hv : chkRq ⟨4, i, ep, cells, f, t, lim⟩ = 16 := by unfold chkRq; rw [if_neg (by simp), if_pos (.inr (.inl Hq.out))]
      have Hv := Lib.hid hv
      clear hv
      go_wp2_with fail
      go_ret
      rw [Hv.out]
      exact ⟨rfl, Hb3.out⟩
    · have q2 := cell_blk Hf3.out 2
      have q0 := cell_blk Hf3.out 0
      simp at q0 q2
      go_wp2_with fail
      refine (small_any ep _).mono ?_
      rintro e w4 ⟨rfl, rfl⟩
      cases hse : isSmall ep
      · have hv : chkRq ⟨4, i, ep, cells, f, t, lim⟩ = 16 := by unfold chkRq; rw [if_neg (by simp), if_pos (.inr (.inr hse))]
        have Hv := Lib.hid hv
        clear hv hse
        go_wp2_with fail
        go_ret
        rw [Hv.out]
        exact ⟨rfl, Hb3.out⟩
      · have hv : chkRq ⟨4, i, ep, cells, f, t, lim⟩ = 0 := by
          unfold chkRq
          rw [if_neg (by simp), if_neg (by rw [Hq.out, Hsi.out, hse]; simp)]
          simp
        have Hv := Lib.hid hv
        clear hv hse

        go_wp2_with fail
        go_ret
        rw [Hv.out]
        exact ⟨rfl, Hb3.out⟩

set_option maxRecDepth 100000 in
set_option maxHeartbeats 8000000 in
theorem check_7 (i ep : Int) (cells : List Cell) (f t : Cell) (lim : Int) (pa : Option Addr) (ca : Nat) (w : World) (hs : Sl 3 cellL w pa cells) (hl : cells.length ≤ 1000000000) :
    Calls Try.prog 32 #[.agg (Rq.at ⟨7, i, ep, cells, f, t, lim⟩ pa ca)] w fun e w' => e = .returned (.int .i64 (chkRq ⟨7, i, ep, cells, f, t, lim⟩)) ∧ Below w.heap.size w w' := by
  have hb0 : Below w.heap.size w (w.alloc (.cells (Rq.at ⟨7, i, ep, cells, f, t, lim⟩ pa ca) 48)) := (Below.refl _ _).alloc (Nat.le_refl _) _
  have hf0 : (w.alloc (.cells (Rq.at ⟨7, i, ep, cells, f, t, lim⟩ pa ca) 48)).heap[w.heap.size]? = some (.cells (Rq.at ⟨7, i, ep, cells, f, t, lim⟩ pa ca) 48 (0, 0)) := blk_at rfl
  have hv : ∀ x, chkRq ⟨7, i, ep, cells, f, t, lim⟩ = x → chkRq ⟨7, i, ep, cells, f, t, lim⟩ = x := fun x h => h
  have how : Rq.own ⟨7, i, ep, cells, f, t, lim⟩ = ⟨7, i, 0, [], ⟨0, ByteArray.empty, 0⟩, ⟨0, ByteArray.empty, 0⟩, 0⟩ := by unfold Rq.own; simp
  have hask := fun W => asks_7 i ep cells f t lim pa ca W
  have hsame := fun W (hW : Below w.heap.size w W) => same_any ⟨7, i, ep, cells, f, t, lim⟩ ⟨7, i, 0, [], ⟨0, ByteArray.empty, 0⟩, ⟨0, ByteArray.empty, 0⟩, 0⟩ pa none ca 0 W (hs.below hW) (Sl.nil _ _ _ _) hl
  have hq : sameRq ⟨7, i, ep, cells, f, t, lim⟩ (Rq.own ⟨7, i, ep, cells, f, t, lim⟩) = sameRq ⟨7, i, ep, cells, f, t, lim⟩ ⟨7, i, 0, [], ⟨0, ByteArray.empty, 0⟩, ⟨0, ByteArray.empty, 0⟩, 0⟩ := by rw [how]
  generalize hsm : sameRq ⟨7, i, ep, cells, f, t, lim⟩ ⟨7, i, 0, [], ⟨0, ByteArray.empty, 0⟩, ⟨0, ByteArray.empty, 0⟩, 0⟩ = sm at *
  have Hb0 := Lib.hid hb0
  have Hf0 := Lib.hid hf0
  have Hask := Lib.hid hask
  have Hsame := Lib.hid hsame
  have Hq := Lib.hid hq
  have Hs := Lib.hid hs
  clear hb0 hf0 hv how hask hsame hq hsm hs
  have tacells := fun W => ta_miss (P := Try.prog) (t := 153) (xT := 20) (z := .agg #[.int .i64 0, .slice none 0 0]) Try.underlying133 (by decide) (.agg #[]) W (by kernel_rfl)
  have tascan := fun W => ta_miss (P := Try.prog) (t := 153) (xT := 20) (z := .agg #[.int .i64 0, .int .i64 0, .string ByteArray.empty, .int .i64 0, .int .i64 0, .string ByteArray.empty, .int .i64 0, .int .i64 0]) Try.underlying135 (by decide) (.agg #[]) W (by kernel_rfl)
  have taepoch := fun W => ta_miss (P := Try.prog) (t := 153) (xT := 20) (z := .agg #[.int .i64 0]) Try.underlying137 (by decide) (.agg #[]) W (by kernel_rfl)
  go_enter Try.func32, Try.ntmps32
  go_wp2_with fail
  refine (Hask.out _).mono ?_
  rintro e w1 ⟨rfl, hb1⟩
  have hz1 : w.heap.size < w1.heap.size := by have := hb1.size; simp at this; omega
  have hf1 := (hb1.block _ (by simp)).trans Hf0.out
  have hb1' := Hb0.out.trans (hb1.mono Hb0.out.size)
  have hb2 : Below w.heap.size w (w1.alloc (.cells (Rq.at ⟨7, i, 0, [], ⟨0, ByteArray.empty, 0⟩, ⟨0, ByteArray.empty, 0⟩, 0⟩ none 0) 48)) := hb1'.alloc hb1'.size _
  have hf2 : (w1.alloc (.cells (Rq.at ⟨7, i, 0, [], ⟨0, ByteArray.empty, 0⟩, ⟨0, ByteArray.empty, 0⟩, 0⟩ none 0) 48)).heap[w.heap.size]? = some (.cells (Rq.at ⟨7, i, ep, cells, f, t, lim⟩ pa ca) 48 (0, 0)) := (blk_old hz1).trans hf1
  have hg2 : (w1.alloc (.cells (Rq.at ⟨7, i, 0, [], ⟨0, ByteArray.empty, 0⟩, ⟨0, ByteArray.empty, 0⟩, 0⟩ none 0) 48)).heap[w1.heap.size]? = some (.cells (Rq.at ⟨7, i, 0, [], ⟨0, ByteArray.empty, 0⟩, ⟨0, ByteArray.empty, 0⟩, 0⟩ none 0) 48 (0, 0)) := blk_at rfl
  have q1 := cell_blk hf1 1
  simp at q1
  simp only [Rq.at, List.length_nil] at hb2 hf2 hg2
  have Hb2 := Lib.hid hb2
  have Hf2 := Lib.hid hf2
  have Hg2 := Lib.hid hg2
  clear hb1 hb1' hf1 hb2 hf2 hg2
  go_wp2_with fail
  clear q1
  generalize hW2 : World.alloc w1 _ = W2 at *
  have Hw2 := Lib.hid hW2
  clear hW2
  refine (small_any i _).mono ?_
  rintro e w2 ⟨rfl, rfl⟩
  cases hsi : isSmall i
  · have hv : chkRq ⟨7, i, ep, cells, f, t, lim⟩ = 16 := by unfold chkRq; rw [if_neg (by simp), if_pos (.inl hsi)]
    have Hv := Lib.hid hv
    clear hv hsi
    go_wp2_with fail
    go_ret
    rw [Hv.out]
    exact ⟨rfl, Hb2.out⟩
  · have Hsi := Lib.hid hsi
    clear hsi
    have q0 := cell_blk Hf2.out 0
    have q1 := cell_blk Hf2.out 1
    have q2 := cell_blk Hf2.out 2
    have q3 := cell_blk Hf2.out 3
    have q4 := cell_blk Hf2.out 4
    have q5 := cell_blk Hf2.out 5
    have q6 := cell_blk Hf2.out 6
    have q7 := cell_blk Hf2.out 7
    have q8 := cell_blk Hf2.out 8
    have q9 := cell_blk Hf2.out 9
    have q10 := cell_blk Hf2.out 10
    have r0 := cell_blk Hg2.out 0
    have r1 := cell_blk Hg2.out 1
    have r2 := cell_blk Hg2.out 2
    have r3 := cell_blk Hg2.out 3
    have r4 := cell_blk Hg2.out 4
    have r5 := cell_blk Hg2.out 5
    have r6 := cell_blk Hg2.out 6
    have r7 := cell_blk Hg2.out 7
    have r8 := cell_blk Hg2.out 8
    have r9 := cell_blk Hg2.out 9
    have r10 := cell_blk Hg2.out 10
    simp at q0 q1 q2 q3 q4 q5 q6 q7 q8 q9 q10 r0 r1 r2 r3 r4 r5 r6 r7 r8 r9 r10
    go_wp2_with fail
    refine (Hsame.out _ Hb2.out).mono ?_
    rintro e w3 ⟨rfl, hb3⟩
    have hz3 := hb3.size
    have hl2 := lt_of_block Hf2.out
    have hl3 : w.heap.size < w3.heap.size := by omega
    have Hf3 := Lib.hid ((hb3.block _ hl2).trans Hf2.out)
    have Hb3 := Lib.hid (Hb2.out.trans (hb3.mono Hb2.out.size))
    clear hb3 q0 q1 q2 q3 q4 q5 q6 q7 q8 q9 q10 r0 r1 r2 r3 r4 r5 r6 r7 r8 r9 r10
    cases sm
    · have hv : chkRq ⟨7, i, ep, cells, f, t, lim⟩ = 16 := by unfold chkRq; rw [if_neg (by simp), if_pos (.inr (.inl Hq.out))]
      have Hv := Lib.hid hv
      clear hv
      go_wp2_with fail
      go_ret
      rw [Hv.out]
      exact ⟨rfl, Hb3.out⟩
    · have q2 := cell_blk Hf3.out 2
      have q0 := cell_blk Hf3.out 0
      simp at q0 q2
      go_wp2_with fail
      refine (small_any ep _).mono ?_
      rintro e w4 ⟨rfl, rfl⟩
      cases hse : isSmall ep
      · have hv : chkRq ⟨7, i, ep, cells, f, t, lim⟩ = 16 := by unfold chkRq; rw [if_neg (by simp), if_pos (.inr (.inr hse))]
        have Hv := Lib.hid hv
        clear hv hse
        go_wp2_with fail
        go_ret
        rw [Hv.out]
        exact ⟨rfl, Hb3.out⟩
      · have hv : chkRq ⟨7, i, ep, cells, f, t, lim⟩ = 0 := by
          unfold chkRq
          rw [if_neg (by simp), if_neg (by rw [Hq.out, Hsi.out, hse]; simp)]
          simp
        have Hv := Lib.hid hv
        clear hv hse

        go_wp2_with fail
        go_ret
        rw [Hv.out]
        exact ⟨rfl, Hb3.out⟩

set_option maxRecDepth 100000 in
set_option maxHeartbeats 8000000 in
theorem check_5 (i ep : Int) (cells : List Cell) (f t : Cell) (lim : Int) (pa : Option Addr) (ca : Nat) (w : World) (hs : Sl 3 cellL w pa cells) (hl : cells.length ≤ 1000000000) :
    Calls Try.prog 32 #[.agg (Rq.at ⟨5, i, ep, cells, f, t, lim⟩ pa ca)] w fun e w' => e = .returned (.int .i64 (chkRq ⟨5, i, ep, cells, f, t, lim⟩)) ∧ Below w.heap.size w w' := by
  have hb0 : Below w.heap.size w (w.alloc (.cells (Rq.at ⟨5, i, ep, cells, f, t, lim⟩ pa ca) 48)) := (Below.refl _ _).alloc (Nat.le_refl _) _
  have hf0 : (w.alloc (.cells (Rq.at ⟨5, i, ep, cells, f, t, lim⟩ pa ca) 48)).heap[w.heap.size]? = some (.cells (Rq.at ⟨5, i, ep, cells, f, t, lim⟩ pa ca) 48 (0, 0)) := blk_at rfl
  have hv : ∀ x, chkRq ⟨5, i, ep, cells, f, t, lim⟩ = x → chkRq ⟨5, i, ep, cells, f, t, lim⟩ = x := fun x h => h
  have how : Rq.own ⟨5, i, ep, cells, f, t, lim⟩ = ⟨5, i, ep, [], ⟨0, ByteArray.empty, 0⟩, ⟨0, ByteArray.empty, 0⟩, 0⟩ := by unfold Rq.own; simp
  have hask := fun W => asks_5 i ep cells f t lim pa ca W
  have hsame := fun W (hW : Below w.heap.size w W) => same_any ⟨5, i, ep, cells, f, t, lim⟩ ⟨5, i, ep, [], ⟨0, ByteArray.empty, 0⟩, ⟨0, ByteArray.empty, 0⟩, 0⟩ pa none ca 0 W (hs.below hW) (Sl.nil _ _ _ _) hl
  have hq : sameRq ⟨5, i, ep, cells, f, t, lim⟩ (Rq.own ⟨5, i, ep, cells, f, t, lim⟩) = sameRq ⟨5, i, ep, cells, f, t, lim⟩ ⟨5, i, ep, [], ⟨0, ByteArray.empty, 0⟩, ⟨0, ByteArray.empty, 0⟩, 0⟩ := by rw [how]
  generalize hsm : sameRq ⟨5, i, ep, cells, f, t, lim⟩ ⟨5, i, ep, [], ⟨0, ByteArray.empty, 0⟩, ⟨0, ByteArray.empty, 0⟩, 0⟩ = sm at *
  have Hb0 := Lib.hid hb0
  have Hf0 := Lib.hid hf0
  have Hask := Lib.hid hask
  have Hsame := Lib.hid hsame
  have Hq := Lib.hid hq
  have Hs := Lib.hid hs
  clear hb0 hf0 hv how hask hsame hq hsm hs
  have tacells := fun W => ta_miss (P := Try.prog) (t := 137) (xT := 20) (z := .agg #[.int .i64 0, .slice none 0 0]) Try.underlying133 (by decide) (.agg #[.int .i64 ep]) W (by kernel_rfl)
  have tascan := fun W => ta_miss (P := Try.prog) (t := 137) (xT := 20) (z := .agg #[.int .i64 0, .int .i64 0, .string ByteArray.empty, .int .i64 0, .int .i64 0, .string ByteArray.empty, .int .i64 0, .int .i64 0]) Try.underlying135 (by decide) (.agg #[.int .i64 ep]) W (by kernel_rfl)
  have taepoch := fun W => ta_hit (P := Try.prog) (xT := 20) Try.underlying137 (.agg #[.int .i64 ep]) W
  go_enter Try.func32, Try.ntmps32
  go_wp2_with fail
  refine (Hask.out _).mono ?_
  rintro e w1 ⟨rfl, hb1⟩
  have hz1 : w.heap.size < w1.heap.size := by have := hb1.size; simp at this; omega
  have hf1 := (hb1.block _ (by simp)).trans Hf0.out
  have hb1' := Hb0.out.trans (hb1.mono Hb0.out.size)
  have hb2 : Below w.heap.size w (w1.alloc (.cells (Rq.at ⟨5, i, ep, [], ⟨0, ByteArray.empty, 0⟩, ⟨0, ByteArray.empty, 0⟩, 0⟩ none 0) 48)) := hb1'.alloc hb1'.size _
  have hf2 : (w1.alloc (.cells (Rq.at ⟨5, i, ep, [], ⟨0, ByteArray.empty, 0⟩, ⟨0, ByteArray.empty, 0⟩, 0⟩ none 0) 48)).heap[w.heap.size]? = some (.cells (Rq.at ⟨5, i, ep, cells, f, t, lim⟩ pa ca) 48 (0, 0)) := (blk_old hz1).trans hf1
  have hg2 : (w1.alloc (.cells (Rq.at ⟨5, i, ep, [], ⟨0, ByteArray.empty, 0⟩, ⟨0, ByteArray.empty, 0⟩, 0⟩ none 0) 48)).heap[w1.heap.size]? = some (.cells (Rq.at ⟨5, i, ep, [], ⟨0, ByteArray.empty, 0⟩, ⟨0, ByteArray.empty, 0⟩, 0⟩ none 0) 48 (0, 0)) := blk_at rfl
  have q1 := cell_blk hf1 1
  simp at q1
  simp only [Rq.at, List.length_nil] at hb2 hf2 hg2
  have Hb2 := Lib.hid hb2
  have Hf2 := Lib.hid hf2
  have Hg2 := Lib.hid hg2
  clear hb1 hb1' hf1 hb2 hf2 hg2
  go_wp2_with fail
  clear q1
  generalize hW2 : World.alloc w1 _ = W2 at *
  have Hw2 := Lib.hid hW2
  clear hW2
  refine (small_any i _).mono ?_
  rintro e w2 ⟨rfl, rfl⟩
  cases hsi : isSmall i
  · have hv : chkRq ⟨5, i, ep, cells, f, t, lim⟩ = 16 := by unfold chkRq; rw [if_neg (by simp), if_pos (.inl hsi)]
    have Hv := Lib.hid hv
    clear hv hsi
    go_wp2_with fail
    go_ret
    rw [Hv.out]
    exact ⟨rfl, Hb2.out⟩
  · have Hsi := Lib.hid hsi
    clear hsi
    have q0 := cell_blk Hf2.out 0
    have q1 := cell_blk Hf2.out 1
    have q2 := cell_blk Hf2.out 2
    have q3 := cell_blk Hf2.out 3
    have q4 := cell_blk Hf2.out 4
    have q5 := cell_blk Hf2.out 5
    have q6 := cell_blk Hf2.out 6
    have q7 := cell_blk Hf2.out 7
    have q8 := cell_blk Hf2.out 8
    have q9 := cell_blk Hf2.out 9
    have q10 := cell_blk Hf2.out 10
    have r0 := cell_blk Hg2.out 0
    have r1 := cell_blk Hg2.out 1
    have r2 := cell_blk Hg2.out 2
    have r3 := cell_blk Hg2.out 3
    have r4 := cell_blk Hg2.out 4
    have r5 := cell_blk Hg2.out 5
    have r6 := cell_blk Hg2.out 6
    have r7 := cell_blk Hg2.out 7
    have r8 := cell_blk Hg2.out 8
    have r9 := cell_blk Hg2.out 9
    have r10 := cell_blk Hg2.out 10
    simp at q0 q1 q2 q3 q4 q5 q6 q7 q8 q9 q10 r0 r1 r2 r3 r4 r5 r6 r7 r8 r9 r10
    go_wp2_with fail
    refine (Hsame.out _ Hb2.out).mono ?_
    rintro e w3 ⟨rfl, hb3⟩
    have hz3 := hb3.size
    have hl2 := lt_of_block Hf2.out
    have hl3 : w.heap.size < w3.heap.size := by omega
    have Hf3 := Lib.hid ((hb3.block _ hl2).trans Hf2.out)
    have Hb3 := Lib.hid (Hb2.out.trans (hb3.mono Hb2.out.size))
    clear hb3 q0 q1 q2 q3 q4 q5 q6 q7 q8 q9 q10 r0 r1 r2 r3 r4 r5 r6 r7 r8 r9 r10
    cases sm
    · have hv : chkRq ⟨5, i, ep, cells, f, t, lim⟩ = 16 := by unfold chkRq; rw [if_neg (by simp), if_pos (.inr (.inl Hq.out))]
      have Hv := Lib.hid hv
      clear hv
      go_wp2_with fail
      go_ret
      rw [Hv.out]
      exact ⟨rfl, Hb3.out⟩
    · have q2 := cell_blk Hf3.out 2
      have q0 := cell_blk Hf3.out 0
      simp at q0 q2
      go_wp2_with fail
      refine (small_any ep _).mono ?_
      rintro e w4 ⟨rfl, rfl⟩
      cases hse : isSmall ep
      · have hv : chkRq ⟨5, i, ep, cells, f, t, lim⟩ = 16 := by unfold chkRq; rw [if_neg (by simp), if_pos (.inr (.inr hse))]
        have Hv := Lib.hid hv
        clear hv hse
        go_wp2_with fail
        go_ret
        rw [Hv.out]
        exact ⟨rfl, Hb3.out⟩
      · have hv : chkRq ⟨5, i, ep, cells, f, t, lim⟩ = (if ep = 0 then 16 else 0) := by
          unfold chkRq
          rw [if_neg (by simp), if_neg (by rw [Hq.out, Hsi.out, hse]; simp)]
          simp
        have Hv := Lib.hid hv
        clear hv hse

        by_cases hep : ep = 0
        · have he : (ep == 0) = true := by simp [hep]
          have hx := Hv.out
          rw [if_pos hep] at hx
          have Hx := Lib.hid hx
          clear hx hep
          go_wp2_with fail
          try rw [Exit.noGoto_ret]
          go_ret
          rw [Hx.out]
          exact ⟨rfl, Hb3.out.alloc Hb3.out.size _⟩
        · have he : (ep == 0) = false := by simp [hep]
          have hx := Hv.out
          rw [if_neg hep] at hx
          have Hx := Lib.hid hx
          clear hx hep
          go_wp2_with fail
          try rw [Exit.noGoto_ret]
          go_ret
          rw [Hx.out]
          exact ⟨rfl, Hb3.out.alloc Hb3.out.size _⟩

set_option maxRecDepth 100000 in
set_option maxHeartbeats 8000000 in
theorem check_6 (i ep : Int) (cells : List Cell) (f t : Cell) (lim : Int) (pa : Option Addr) (ca : Nat) (w : World) (hs : Sl 3 cellL w pa cells) (hl : cells.length ≤ 1000000000) :
    Calls Try.prog 32 #[.agg (Rq.at ⟨6, i, ep, cells, f, t, lim⟩ pa ca)] w fun e w' => e = .returned (.int .i64 (chkRq ⟨6, i, ep, cells, f, t, lim⟩)) ∧ Below w.heap.size w w' := by
  have hb0 : Below w.heap.size w (w.alloc (.cells (Rq.at ⟨6, i, ep, cells, f, t, lim⟩ pa ca) 48)) := (Below.refl _ _).alloc (Nat.le_refl _) _
  have hf0 : (w.alloc (.cells (Rq.at ⟨6, i, ep, cells, f, t, lim⟩ pa ca) 48)).heap[w.heap.size]? = some (.cells (Rq.at ⟨6, i, ep, cells, f, t, lim⟩ pa ca) 48 (0, 0)) := blk_at rfl
  have hv : ∀ x, chkRq ⟨6, i, ep, cells, f, t, lim⟩ = x → chkRq ⟨6, i, ep, cells, f, t, lim⟩ = x := fun x h => h
  have how : Rq.own ⟨6, i, ep, cells, f, t, lim⟩ = ⟨6, i, ep, [], ⟨0, ByteArray.empty, 0⟩, ⟨0, ByteArray.empty, 0⟩, 0⟩ := by unfold Rq.own; simp
  have hask := fun W => asks_6 i ep cells f t lim pa ca W
  have hsame := fun W (hW : Below w.heap.size w W) => same_any ⟨6, i, ep, cells, f, t, lim⟩ ⟨6, i, ep, [], ⟨0, ByteArray.empty, 0⟩, ⟨0, ByteArray.empty, 0⟩, 0⟩ pa none ca 0 W (hs.below hW) (Sl.nil _ _ _ _) hl
  have hq : sameRq ⟨6, i, ep, cells, f, t, lim⟩ (Rq.own ⟨6, i, ep, cells, f, t, lim⟩) = sameRq ⟨6, i, ep, cells, f, t, lim⟩ ⟨6, i, ep, [], ⟨0, ByteArray.empty, 0⟩, ⟨0, ByteArray.empty, 0⟩, 0⟩ := by rw [how]
  generalize hsm : sameRq ⟨6, i, ep, cells, f, t, lim⟩ ⟨6, i, ep, [], ⟨0, ByteArray.empty, 0⟩, ⟨0, ByteArray.empty, 0⟩, 0⟩ = sm at *
  have Hb0 := Lib.hid hb0
  have Hf0 := Lib.hid hf0
  have Hask := Lib.hid hask
  have Hsame := Lib.hid hsame
  have Hq := Lib.hid hq
  have Hs := Lib.hid hs
  clear hb0 hf0 hv how hask hsame hq hsm hs
  have tacells := fun W => ta_miss (P := Try.prog) (t := 137) (xT := 20) (z := .agg #[.int .i64 0, .slice none 0 0]) Try.underlying133 (by decide) (.agg #[.int .i64 ep]) W (by kernel_rfl)
  have tascan := fun W => ta_miss (P := Try.prog) (t := 137) (xT := 20) (z := .agg #[.int .i64 0, .int .i64 0, .string ByteArray.empty, .int .i64 0, .int .i64 0, .string ByteArray.empty, .int .i64 0, .int .i64 0]) Try.underlying135 (by decide) (.agg #[.int .i64 ep]) W (by kernel_rfl)
  have taepoch := fun W => ta_hit (P := Try.prog) (xT := 20) Try.underlying137 (.agg #[.int .i64 ep]) W
  go_enter Try.func32, Try.ntmps32
  go_wp2_with fail
  refine (Hask.out _).mono ?_
  rintro e w1 ⟨rfl, hb1⟩
  have hz1 : w.heap.size < w1.heap.size := by have := hb1.size; simp at this; omega
  have hf1 := (hb1.block _ (by simp)).trans Hf0.out
  have hb1' := Hb0.out.trans (hb1.mono Hb0.out.size)
  have hb2 : Below w.heap.size w (w1.alloc (.cells (Rq.at ⟨6, i, ep, [], ⟨0, ByteArray.empty, 0⟩, ⟨0, ByteArray.empty, 0⟩, 0⟩ none 0) 48)) := hb1'.alloc hb1'.size _
  have hf2 : (w1.alloc (.cells (Rq.at ⟨6, i, ep, [], ⟨0, ByteArray.empty, 0⟩, ⟨0, ByteArray.empty, 0⟩, 0⟩ none 0) 48)).heap[w.heap.size]? = some (.cells (Rq.at ⟨6, i, ep, cells, f, t, lim⟩ pa ca) 48 (0, 0)) := (blk_old hz1).trans hf1
  have hg2 : (w1.alloc (.cells (Rq.at ⟨6, i, ep, [], ⟨0, ByteArray.empty, 0⟩, ⟨0, ByteArray.empty, 0⟩, 0⟩ none 0) 48)).heap[w1.heap.size]? = some (.cells (Rq.at ⟨6, i, ep, [], ⟨0, ByteArray.empty, 0⟩, ⟨0, ByteArray.empty, 0⟩, 0⟩ none 0) 48 (0, 0)) := blk_at rfl
  have q1 := cell_blk hf1 1
  simp at q1
  simp only [Rq.at, List.length_nil] at hb2 hf2 hg2
  have Hb2 := Lib.hid hb2
  have Hf2 := Lib.hid hf2
  have Hg2 := Lib.hid hg2
  clear hb1 hb1' hf1 hb2 hf2 hg2
  go_wp2_with fail
  clear q1
  generalize hW2 : World.alloc w1 _ = W2 at *
  have Hw2 := Lib.hid hW2
  clear hW2
  refine (small_any i _).mono ?_
  rintro e w2 ⟨rfl, rfl⟩
  cases hsi : isSmall i
  · have hv : chkRq ⟨6, i, ep, cells, f, t, lim⟩ = 16 := by unfold chkRq; rw [if_neg (by simp), if_pos (.inl hsi)]
    have Hv := Lib.hid hv
    clear hv hsi
    go_wp2_with fail
    go_ret
    rw [Hv.out]
    exact ⟨rfl, Hb2.out⟩
  · have Hsi := Lib.hid hsi
    clear hsi
    have q0 := cell_blk Hf2.out 0
    have q1 := cell_blk Hf2.out 1
    have q2 := cell_blk Hf2.out 2
    have q3 := cell_blk Hf2.out 3
    have q4 := cell_blk Hf2.out 4
    have q5 := cell_blk Hf2.out 5
    have q6 := cell_blk Hf2.out 6
    have q7 := cell_blk Hf2.out 7
    have q8 := cell_blk Hf2.out 8
    have q9 := cell_blk Hf2.out 9
    have q10 := cell_blk Hf2.out 10
    have r0 := cell_blk Hg2.out 0
    have r1 := cell_blk Hg2.out 1
    have r2 := cell_blk Hg2.out 2
    have r3 := cell_blk Hg2.out 3
    have r4 := cell_blk Hg2.out 4
    have r5 := cell_blk Hg2.out 5
    have r6 := cell_blk Hg2.out 6
    have r7 := cell_blk Hg2.out 7
    have r8 := cell_blk Hg2.out 8
    have r9 := cell_blk Hg2.out 9
    have r10 := cell_blk Hg2.out 10
    simp at q0 q1 q2 q3 q4 q5 q6 q7 q8 q9 q10 r0 r1 r2 r3 r4 r5 r6 r7 r8 r9 r10
    go_wp2_with fail
    refine (Hsame.out _ Hb2.out).mono ?_
    rintro e w3 ⟨rfl, hb3⟩
    have hz3 := hb3.size
    have hl2 := lt_of_block Hf2.out
    have hl3 : w.heap.size < w3.heap.size := by omega
    have Hf3 := Lib.hid ((hb3.block _ hl2).trans Hf2.out)
    have Hb3 := Lib.hid (Hb2.out.trans (hb3.mono Hb2.out.size))
    clear hb3 q0 q1 q2 q3 q4 q5 q6 q7 q8 q9 q10 r0 r1 r2 r3 r4 r5 r6 r7 r8 r9 r10
    cases sm
    · have hv : chkRq ⟨6, i, ep, cells, f, t, lim⟩ = 16 := by unfold chkRq; rw [if_neg (by simp), if_pos (.inr (.inl Hq.out))]
      have Hv := Lib.hid hv
      clear hv
      go_wp2_with fail
      go_ret
      rw [Hv.out]
      exact ⟨rfl, Hb3.out⟩
    · have q2 := cell_blk Hf3.out 2
      have q0 := cell_blk Hf3.out 0
      simp at q0 q2
      go_wp2_with fail
      refine (small_any ep _).mono ?_
      rintro e w4 ⟨rfl, rfl⟩
      cases hse : isSmall ep
      · have hv : chkRq ⟨6, i, ep, cells, f, t, lim⟩ = 16 := by unfold chkRq; rw [if_neg (by simp), if_pos (.inr (.inr hse))]
        have Hv := Lib.hid hv
        clear hv hse
        go_wp2_with fail
        go_ret
        rw [Hv.out]
        exact ⟨rfl, Hb3.out⟩
      · have hv : chkRq ⟨6, i, ep, cells, f, t, lim⟩ = (if ep = 0 then 16 else 0) := by
          unfold chkRq
          rw [if_neg (by simp), if_neg (by rw [Hq.out, Hsi.out, hse]; simp)]
          simp
        have Hv := Lib.hid hv
        clear hv hse

        by_cases hep : ep = 0
        · have he : (ep == 0) = true := by simp [hep]
          have hx := Hv.out
          rw [if_pos hep] at hx
          have Hx := Lib.hid hx
          clear hx hep
          go_wp2_with fail
          try rw [Exit.noGoto_ret]
          go_ret
          rw [Hx.out]
          exact ⟨rfl, Hb3.out.alloc Hb3.out.size _⟩
        · have he : (ep == 0) = false := by simp [hep]
          have hx := Hv.out
          rw [if_neg hep] at hx
          have Hx := Lib.hid hx
          clear hx hep
          go_wp2_with fail
          try rw [Exit.noGoto_ret]
          go_ret
          rw [Hx.out]
          exact ⟨rfl, Hb3.out.alloc Hb3.out.size _⟩

set_option maxRecDepth 100000 in
set_option maxHeartbeats 8000000 in
theorem check_3 (i ep : Int) (cells : List Cell) (f t : Cell) (lim : Int) (pa : Option Addr) (ca : Nat) (w : World) (hs : Sl 3 cellL w pa cells) (hl : cells.length ≤ 1000000000) :
    Calls Try.prog 32 #[.agg (Rq.at ⟨3, i, ep, cells, f, t, lim⟩ pa ca)] w fun e w' => e = .returned (.int .i64 (chkRq ⟨3, i, ep, cells, f, t, lim⟩)) ∧ Below w.heap.size w w' := by
  have hb0 : Below w.heap.size w (w.alloc (.cells (Rq.at ⟨3, i, ep, cells, f, t, lim⟩ pa ca) 48)) := (Below.refl _ _).alloc (Nat.le_refl _) _
  have hf0 : (w.alloc (.cells (Rq.at ⟨3, i, ep, cells, f, t, lim⟩ pa ca) 48)).heap[w.heap.size]? = some (.cells (Rq.at ⟨3, i, ep, cells, f, t, lim⟩ pa ca) 48 (0, 0)) := blk_at rfl
  have hv : ∀ x, chkRq ⟨3, i, ep, cells, f, t, lim⟩ = x → chkRq ⟨3, i, ep, cells, f, t, lim⟩ = x := fun x h => h
  have how : Rq.own ⟨3, i, ep, cells, f, t, lim⟩ = ⟨3, i, ep, [], f, t, lim⟩ := by unfold Rq.own; simp
  have hask := fun W => asks_3 i ep cells f t lim pa ca W
  have hsame := fun W (hW : Below w.heap.size w W) => same_any ⟨3, i, ep, cells, f, t, lim⟩ ⟨3, i, ep, [], f, t, lim⟩ pa none ca 0 W (hs.below hW) (Sl.nil _ _ _ _) hl
  have hq : sameRq ⟨3, i, ep, cells, f, t, lim⟩ (Rq.own ⟨3, i, ep, cells, f, t, lim⟩) = sameRq ⟨3, i, ep, cells, f, t, lim⟩ ⟨3, i, ep, [], f, t, lim⟩ := by rw [how]
  generalize hsm : sameRq ⟨3, i, ep, cells, f, t, lim⟩ ⟨3, i, ep, [], f, t, lim⟩ = sm at *
  have Hb0 := Lib.hid hb0
  have Hf0 := Lib.hid hf0
  have Hask := Lib.hid hask
  have Hsame := Lib.hid hsame
  have Hq := Lib.hid hq
  have Hs := Lib.hid hs
  clear hb0 hf0 hv how hask hsame hq hsm hs
  have tacells := fun W => ta_miss (P := Try.prog) (t := 135) (xT := 20) (z := .agg #[.int .i64 0, .slice none 0 0]) Try.underlying133 (by decide) (.agg #[.int .i64 ep, .int .i64 f.v, .string f.k, .int .i64 f.s, .int .i64 t.v, .string t.k, .int .i64 t.s, .int .i64 lim]) W (by kernel_rfl)
  have tascan := fun W => ta_hit (P := Try.prog) (xT := 20) Try.underlying135 (.agg #[.int .i64 ep, .int .i64 f.v, .string f.k, .int .i64 f.s, .int .i64 t.v, .string t.k, .int .i64 t.s, .int .i64 lim]) W
  go_enter Try.func32, Try.ntmps32
  go_wp2_with fail
  refine (Hask.out _).mono ?_
  rintro e w1 ⟨rfl, hb1⟩
  have hz1 : w.heap.size < w1.heap.size := by have := hb1.size; simp at this; omega
  have hf1 := (hb1.block _ (by simp)).trans Hf0.out
  have hb1' := Hb0.out.trans (hb1.mono Hb0.out.size)
  have hb2 : Below w.heap.size w (w1.alloc (.cells (Rq.at ⟨3, i, ep, [], f, t, lim⟩ none 0) 48)) := hb1'.alloc hb1'.size _
  have hf2 : (w1.alloc (.cells (Rq.at ⟨3, i, ep, [], f, t, lim⟩ none 0) 48)).heap[w.heap.size]? = some (.cells (Rq.at ⟨3, i, ep, cells, f, t, lim⟩ pa ca) 48 (0, 0)) := (blk_old hz1).trans hf1
  have hg2 : (w1.alloc (.cells (Rq.at ⟨3, i, ep, [], f, t, lim⟩ none 0) 48)).heap[w1.heap.size]? = some (.cells (Rq.at ⟨3, i, ep, [], f, t, lim⟩ none 0) 48 (0, 0)) := blk_at rfl
  have q1 := cell_blk hf1 1
  simp at q1
  simp only [Rq.at, List.length_nil] at hb2 hf2 hg2
  have Hb2 := Lib.hid hb2
  have Hf2 := Lib.hid hf2
  have Hg2 := Lib.hid hg2
  clear hb1 hb1' hf1 hb2 hf2 hg2
  go_wp2_with fail
  clear q1
  generalize hW2 : World.alloc w1 _ = W2 at *
  have Hw2 := Lib.hid hW2
  clear hW2
  refine (small_any i _).mono ?_
  rintro e w2 ⟨rfl, rfl⟩
  cases hsi : isSmall i
  · have hv : chkRq ⟨3, i, ep, cells, f, t, lim⟩ = 16 := by unfold chkRq; rw [if_neg (by simp), if_pos (.inl hsi)]
    have Hv := Lib.hid hv
    clear hv hsi
    go_wp2_with fail
    go_ret
    rw [Hv.out]
    exact ⟨rfl, Hb2.out⟩
  · have Hsi := Lib.hid hsi
    clear hsi
    have q0 := cell_blk Hf2.out 0
    have q1 := cell_blk Hf2.out 1
    have q2 := cell_blk Hf2.out 2
    have q3 := cell_blk Hf2.out 3
    have q4 := cell_blk Hf2.out 4
    have q5 := cell_blk Hf2.out 5
    have q6 := cell_blk Hf2.out 6
    have q7 := cell_blk Hf2.out 7
    have q8 := cell_blk Hf2.out 8
    have q9 := cell_blk Hf2.out 9
    have q10 := cell_blk Hf2.out 10
    have r0 := cell_blk Hg2.out 0
    have r1 := cell_blk Hg2.out 1
    have r2 := cell_blk Hg2.out 2
    have r3 := cell_blk Hg2.out 3
    have r4 := cell_blk Hg2.out 4
    have r5 := cell_blk Hg2.out 5
    have r6 := cell_blk Hg2.out 6
    have r7 := cell_blk Hg2.out 7
    have r8 := cell_blk Hg2.out 8
    have r9 := cell_blk Hg2.out 9
    have r10 := cell_blk Hg2.out 10
    simp at q0 q1 q2 q3 q4 q5 q6 q7 q8 q9 q10 r0 r1 r2 r3 r4 r5 r6 r7 r8 r9 r10
    go_wp2_with fail
    refine (Hsame.out _ Hb2.out).mono ?_
    rintro e w3 ⟨rfl, hb3⟩
    have hz3 := hb3.size
    have hl2 := lt_of_block Hf2.out
    have hl3 : w.heap.size < w3.heap.size := by omega
    have Hf3 := Lib.hid ((hb3.block _ hl2).trans Hf2.out)
    have Hb3 := Lib.hid (Hb2.out.trans (hb3.mono Hb2.out.size))
    clear hb3 q0 q1 q2 q3 q4 q5 q6 q7 q8 q9 q10 r0 r1 r2 r3 r4 r5 r6 r7 r8 r9 r10
    cases sm
    · have hv : chkRq ⟨3, i, ep, cells, f, t, lim⟩ = 16 := by unfold chkRq; rw [if_neg (by simp), if_pos (.inr (.inl Hq.out))]
      have Hv := Lib.hid hv
      clear hv
      go_wp2_with fail
      go_ret
      rw [Hv.out]
      exact ⟨rfl, Hb3.out⟩
    · have q2 := cell_blk Hf3.out 2
      have q0 := cell_blk Hf3.out 0
      simp at q0 q2
      go_wp2_with fail
      refine (small_any ep _).mono ?_
      rintro e w4 ⟨rfl, rfl⟩
      cases hse : isSmall ep
      · have hv : chkRq ⟨3, i, ep, cells, f, t, lim⟩ = 16 := by unfold chkRq; rw [if_neg (by simp), if_pos (.inr (.inr hse))]
        have Hv := Lib.hid hv
        clear hv hse
        go_wp2_with fail
        go_ret
        rw [Hv.out]
        exact ⟨rfl, Hb3.out⟩
      · have hv : chkRq ⟨3, i, ep, cells, f, t, lim⟩ = (if placeE f 4 0 ≠ 0 then placeE f 4 0 else if placeE t 4 0 ≠ 0 then placeE t 4 0 else if lim < 1 ∨ 256 < lim then 2 else 0) := by
          unfold chkRq
          rw [if_neg (by simp), if_neg (by rw [Hq.out, Hsi.out, hse]; simp)]
          simp
        have Hv := Lib.hid hv
        clear hv hse

        have hbf := fun W => boundE_any f.v f.k f.s W
        rw [show (⟨f.v, f.k, f.s⟩ : Cell) = f from rfl] at hbf
        have hbt := fun W => boundE_any t.v t.k t.s W
        rw [show (⟨t.v, t.k, t.s⟩ : Cell) = t from rfl] at hbt
        have Hbf := Lib.hid hbf
        have Hbt := Lib.hid hbt
        clear hbf hbt
        generalize placeE f 4 0 = E1 at *
        generalize placeE t 4 0 = E2 at *
        go_wp2_with fail
        generalize hW4 : World.alloc w3 _ = W4
        have hf4 : W4.heap[w3.heap.size]? = some (.cells #[.int .i64 ep, .int .i64 f.v, .string f.k, .int .i64 f.s, .int .i64 t.v, .string t.k, .int .i64 t.s, .int .i64 lim] 135 (0, 0)) := by rw [← hW4]; exact blk_at rfl
        have hb4 : Below w.heap.size w W4 := by rw [← hW4]; exact Hb3.out.alloc Hb3.out.size _
        clear hW4
        refine (Hbf.out _).mono ?_
        rintro e w5 ⟨rfl, hb5⟩
        have hf5 := (hb5.block _ (lt_of_block hf4)).trans hf4
        have Hb5 := Lib.hid (hb4.trans (hb5.mono hb4.size))
        have Hf5 := Lib.hid hf5
        have c4 := cell_blk hf5 4
        have c5 := cell_blk hf5 5
        have c6 := cell_blk hf5 6
        simp at c4 c5 c6
        clear hf4 hb4 hb5 hf5
        by_cases h1 : E1 = 0
        · have h1b : (E1 != 0) = false := by simp [h1]
          have hx := Hv.out
          rw [if_neg (by simp [h1])] at hx
          have Hx := Lib.hid hx
          clear hx h1
          go_wp2_with fail
          refine (Hbt.out _).mono ?_
          rintro e w6 ⟨rfl, hb6⟩
          have hf6 := (hb6.block _ (lt_of_block Hf5.out)).trans Hf5.out
          have Hb6 := Lib.hid (Hb5.out.trans (hb6.mono Hb5.out.size))
          have c7 := cell_blk hf6 7
          simp at c7
          clear hb6 hf6 c4 c5 c6
          by_cases h2 : E2 = 0
          · have h2b : (E2 != 0) = false := by simp [h2]
            have hx := Hx.out
            rw [if_neg (by simp [h2])] at hx
            clear h2
            by_cases h3 : lim < 1
            · rw [if_pos (.inl h3)] at hx
              have Hy := Lib.hid hx
              clear hx
              go_wp2_with fail
              try rw [Exit.noGoto_ret]
              go_ret
              rw [Hy.out]
              exact ⟨rfl, Hb6.out⟩
            · by_cases h4 : 256 < lim
              · rw [if_pos (.inr h4)] at hx
                have Hy := Lib.hid hx
                clear hx
                go_wp2_with fail
                try rw [Exit.noGoto_ret]
                go_ret
                rw [Hy.out]
                exact ⟨rfl, Hb6.out⟩
              · rw [if_neg (by simp; omega)] at hx
                have Hy := Lib.hid hx
                clear hx
                go_wp2_with fail
                try rw [Exit.noGoto_ret]
                go_ret
                rw [Hy.out]
                exact ⟨rfl, Hb6.out⟩
          · have h2b : (E2 != 0) = true := by simp [h2]
            have hx := Hx.out
            rw [if_pos h2] at hx
            have Hy := Lib.hid hx
            clear hx h2
            go_wp2_with fail
            try rw [Exit.noGoto_ret]
            go_ret
            rw [Hy.out]
            exact ⟨rfl, Hb6.out⟩
        · have h1b : (E1 != 0) = true := by simp [h1]
          have hx := Hv.out
          rw [if_pos h1] at hx
          have Hx := Lib.hid hx
          clear hx h1
          go_wp2_with fail
          try rw [Exit.noGoto_ret]
          go_ret
          rw [Hx.out]
          exact ⟨rfl, Hb5.out⟩

set_option maxRecDepth 100000 in
set_option maxHeartbeats 8000000 in
theorem check_1 (i ep : Int) (cells : List Cell) (f t : Cell) (lim : Int) (pa : Option Addr) (ca : Nat) (w : World) (hs : Sl 3 cellL w pa cells) (hl : cells.length ≤ 1000000000) :
    Calls Try.prog 32 #[.agg (Rq.at ⟨1, i, ep, cells, f, t, lim⟩ pa ca)] w fun e w' => e = .returned (.int .i64 (chkRq ⟨1, i, ep, cells, f, t, lim⟩)) ∧ Below w.heap.size w w' := by
  have hb0 : Below w.heap.size w (w.alloc (.cells (Rq.at ⟨1, i, ep, cells, f, t, lim⟩ pa ca) 48)) := (Below.refl _ _).alloc (Nat.le_refl _) _
  have hf0 : (w.alloc (.cells (Rq.at ⟨1, i, ep, cells, f, t, lim⟩ pa ca) 48)).heap[w.heap.size]? = some (.cells (Rq.at ⟨1, i, ep, cells, f, t, lim⟩ pa ca) 48 (0, 0)) := blk_at rfl
  have hv : ∀ x, chkRq ⟨1, i, ep, cells, f, t, lim⟩ = x → chkRq ⟨1, i, ep, cells, f, t, lim⟩ = x := fun x h => h
  have how : Rq.own ⟨1, i, ep, cells, f, t, lim⟩ = ⟨1, i, ep, cells, ⟨0, ByteArray.empty, 0⟩, ⟨0, ByteArray.empty, 0⟩, 0⟩ := by unfold Rq.own; simp
  have hask := fun W => asks_1 i ep cells f t lim pa ca W
  have hsame := fun W (hW : Below w.heap.size w W) => same_any ⟨1, i, ep, cells, f, t, lim⟩ ⟨1, i, ep, cells, ⟨0, ByteArray.empty, 0⟩, ⟨0, ByteArray.empty, 0⟩, 0⟩ pa pa ca ca W (hs.below hW) (hs.below hW) hl
  have hq : sameRq ⟨1, i, ep, cells, f, t, lim⟩ (Rq.own ⟨1, i, ep, cells, f, t, lim⟩) = sameRq ⟨1, i, ep, cells, f, t, lim⟩ ⟨1, i, ep, cells, ⟨0, ByteArray.empty, 0⟩, ⟨0, ByteArray.empty, 0⟩, 0⟩ := by rw [how]
  generalize hsm : sameRq ⟨1, i, ep, cells, f, t, lim⟩ ⟨1, i, ep, cells, ⟨0, ByteArray.empty, 0⟩, ⟨0, ByteArray.empty, 0⟩, 0⟩ = sm at *
  have Hb0 := Lib.hid hb0
  have Hf0 := Lib.hid hf0
  have Hask := Lib.hid hask
  have Hsame := Lib.hid hsame
  have Hq := Lib.hid hq
  have Hs := Lib.hid hs
  clear hb0 hf0 hv how hask hsame hq hsm hs
  have tacells := fun W => ta_hit (P := Try.prog) (xT := 20) Try.underlying133 (.agg #[.int .i64 ep, .slice pa cells.length ca]) W
  go_enter Try.func32, Try.ntmps32
  go_wp2_with fail
  refine (Hask.out _).mono ?_
  rintro e w1 ⟨rfl, hb1⟩
  have hz1 : w.heap.size < w1.heap.size := by have := hb1.size; simp at this; omega
  have hf1 := (hb1.block _ (by simp)).trans Hf0.out
  have hb1' := Hb0.out.trans (hb1.mono Hb0.out.size)
  have hb2 : Below w.heap.size w (w1.alloc (.cells (Rq.at ⟨1, i, ep, cells, ⟨0, ByteArray.empty, 0⟩, ⟨0, ByteArray.empty, 0⟩, 0⟩ pa ca) 48)) := hb1'.alloc hb1'.size _
  have hf2 : (w1.alloc (.cells (Rq.at ⟨1, i, ep, cells, ⟨0, ByteArray.empty, 0⟩, ⟨0, ByteArray.empty, 0⟩, 0⟩ pa ca) 48)).heap[w.heap.size]? = some (.cells (Rq.at ⟨1, i, ep, cells, f, t, lim⟩ pa ca) 48 (0, 0)) := (blk_old hz1).trans hf1
  have hg2 : (w1.alloc (.cells (Rq.at ⟨1, i, ep, cells, ⟨0, ByteArray.empty, 0⟩, ⟨0, ByteArray.empty, 0⟩, 0⟩ pa ca) 48)).heap[w1.heap.size]? = some (.cells (Rq.at ⟨1, i, ep, cells, ⟨0, ByteArray.empty, 0⟩, ⟨0, ByteArray.empty, 0⟩, 0⟩ pa ca) 48 (0, 0)) := blk_at rfl
  have q1 := cell_blk hf1 1
  simp at q1
  simp only [Rq.at, List.length_nil] at hb2 hf2 hg2
  have Hb2 := Lib.hid hb2
  have Hf2 := Lib.hid hf2
  have Hg2 := Lib.hid hg2
  clear hb1 hb1' hf1 hb2 hf2 hg2
  go_wp2_with fail
  clear q1
  generalize hW2 : World.alloc w1 _ = W2 at *
  have Hw2 := Lib.hid hW2
  clear hW2
  refine (small_any i _).mono ?_
  rintro e w2 ⟨rfl, rfl⟩
  cases hsi : isSmall i
  · have hv : chkRq ⟨1, i, ep, cells, f, t, lim⟩ = 16 := by unfold chkRq; rw [if_neg (by simp), if_pos (.inl hsi)]
    have Hv := Lib.hid hv
    clear hv hsi
    go_wp2_with fail
    go_ret
    rw [Hv.out]
    exact ⟨rfl, Hb2.out⟩
  · have Hsi := Lib.hid hsi
    clear hsi
    have q0 := cell_blk Hf2.out 0
    have q1 := cell_blk Hf2.out 1
    have q2 := cell_blk Hf2.out 2
    have q3 := cell_blk Hf2.out 3
    have q4 := cell_blk Hf2.out 4
    have q5 := cell_blk Hf2.out 5
    have q6 := cell_blk Hf2.out 6
    have q7 := cell_blk Hf2.out 7
    have q8 := cell_blk Hf2.out 8
    have q9 := cell_blk Hf2.out 9
    have q10 := cell_blk Hf2.out 10
    have r0 := cell_blk Hg2.out 0
    have r1 := cell_blk Hg2.out 1
    have r2 := cell_blk Hg2.out 2
    have r3 := cell_blk Hg2.out 3
    have r4 := cell_blk Hg2.out 4
    have r5 := cell_blk Hg2.out 5
    have r6 := cell_blk Hg2.out 6
    have r7 := cell_blk Hg2.out 7
    have r8 := cell_blk Hg2.out 8
    have r9 := cell_blk Hg2.out 9
    have r10 := cell_blk Hg2.out 10
    simp at q0 q1 q2 q3 q4 q5 q6 q7 q8 q9 q10 r0 r1 r2 r3 r4 r5 r6 r7 r8 r9 r10
    go_wp2_with fail
    refine (Hsame.out _ Hb2.out).mono ?_
    rintro e w3 ⟨rfl, hb3⟩
    have hz3 := hb3.size
    have hl2 := lt_of_block Hf2.out
    have hl3 : w.heap.size < w3.heap.size := by omega
    have Hf3 := Lib.hid ((hb3.block _ hl2).trans Hf2.out)
    have Hb3 := Lib.hid (Hb2.out.trans (hb3.mono Hb2.out.size))
    clear hb3 q0 q1 q2 q3 q4 q5 q6 q7 q8 q9 q10 r0 r1 r2 r3 r4 r5 r6 r7 r8 r9 r10
    cases sm
    · have hv : chkRq ⟨1, i, ep, cells, f, t, lim⟩ = 16 := by unfold chkRq; rw [if_neg (by simp), if_pos (.inr (.inl Hq.out))]
      have Hv := Lib.hid hv
      clear hv
      go_wp2_with fail
      go_ret
      rw [Hv.out]
      exact ⟨rfl, Hb3.out⟩
    · have q2 := cell_blk Hf3.out 2
      have q0 := cell_blk Hf3.out 0
      simp at q0 q2
      go_wp2_with fail
      refine (small_any ep _).mono ?_
      rintro e w4 ⟨rfl, rfl⟩
      cases hse : isSmall ep
      · have hv : chkRq ⟨1, i, ep, cells, f, t, lim⟩ = 16 := by unfold chkRq; rw [if_neg (by simp), if_pos (.inr (.inr hse))]
        have Hv := Lib.hid hv
        clear hv hse
        go_wp2_with fail
        go_ret
        rw [Hv.out]
        exact ⟨rfl, Hb3.out⟩
      · have hv : chkRq ⟨1, i, ep, cells, f, t, lim⟩ = (if cells.length = 0 ∨ cells.length ≠ 1 then 16 else if 16 < cells.length then 2 else cellsE cells) := by
          unfold chkRq
          rw [if_neg (by simp), if_neg (by rw [Hq.out, Hsi.out, hse]; simp)]
          simp
        have Hv := Lib.hid hv
        clear hv hse

        by_cases h0 : cells.length = 0
        · have h0b : ((cells.length : Int) == 0) = true := by rw [h0]; rfl
          have hx := Hv.out
          rw [if_pos (.inl h0)] at hx
          have Hx := Lib.hid hx
          clear hx h0
          go_wp2_with fail
          try rw [Exit.noGoto_ret]
          go_ret
          rw [Hx.out]
          exact ⟨rfl, Hb3.out.alloc Hb3.out.size _⟩
        · have h0b : ((cells.length : Int) == 0) = false := by rw [beq_eq_false_iff_ne]; omega
          by_cases h1 : cells.length = 1
          · have h1b : ((cells.length : Int) != 1) = false := by rw [h1]; rfl
            have h16 : ¬ 16 < (cells.length : Int) := by omega
            have hx := Hv.out
            rw [if_neg (fun h => by rcases h with h | h; exact h0 h; exact h h1), if_neg (by omega)] at hx
            have Hx := Lib.hid hx
            clear hx h0 h1
            have hb4 : ∀ o, Below w.heap.size w (w3.alloc o) := fun o => Hb3.out.alloc Hb3.out.size _
            have Hb4 := Lib.hid hb4
            clear hb4
            go_wp2_with fail
            go_loopg [64] cells.length (fun g s64 wr => ∃ j : Nat, j + g = cells.length ∧ s64 = .int .i64 j ∧ (∀ q (hq : q < cells.length), q < j → placeE cells[q] 3 1 = 0) ∧ Below w.heap.size w wr)
            case atStart => exact ⟨0, by omega, rfl, fun q _ h => absurd h (Nat.not_lt_zero _), Hb4.out _⟩
            case round =>
              obtain ⟨j, hj, rfl, hall, hb⟩ := hrel
              have Hj := Lib.hid hj
              have Hall := Lib.hid hall
              have Hb := Lib.hid hb
              clear hj hall hb
              by_cases hlt : j < cells.length
              · obtain ⟨ob, oo, rfl, hob, h0, h1, h2⟩ := Hs.out.at3 hlt rfl
                have d0 := (Hb.out.cell (p := ⟨ob, _, none⟩) hob).trans h0
                have d1 := (Hb.out.cell (p := ⟨ob, _, none⟩) hob).trans h1
                have d2 := (Hb.out.cell (p := ⟨ob, _, none⟩) hob).trans h2
                have hce := fun W => cellE_any cells[j].v cells[j].k cells[j].s W
                rw [show (⟨cells[j].v, cells[j].k, cells[j].s⟩ : Cell) = cells[j] from rfl] at hce
                have hfirst := fun hn => cellsE_first hlt (fun q hq hqj => Hall.out q hq hqj) hn
                generalize hpe : placeE cells[j] 3 1 = pe at *
                have Hpe := Lib.hid hpe
                have Hfirst := Lib.hid hfirst
                have Hce := Lib.hid hce
                clear h0 h1 h2 hpe hfirst hce
                generalize cells[j].v = x at *
                generalize cells[j].k = y at *
                generalize cells[j].s = z at *
                go_wp2_with fail
                refine (Hce.out _).mono ?_
                rintro e w6 ⟨rfl, hb6⟩
                have Hb6 := Lib.hid ((Hb.out.alloc Hb.out.size _).trans (hb6.mono (by have := Hb.out.size; simp; omega)))
                clear hb6
                by_cases h1 : pe = 0
                · have h1b : (pe != 0) = false := by simp [h1]
                  have H1 := Lib.hid h1
                  clear h1
                  go_wp2_with fail
                  go_roundg (gk - 1)
                  case measure => have := Hj.out; omega
                  case rel =>
                    refine ⟨j + 1, by have := Hj.out; omega, by go_num, fun q hq hqj => ?_, Hb6.out⟩
                    by_cases e : q = j
                    · subst e; exact Hpe.out.trans H1.out
                    · exact Hall.out q hq (by omega)
                · have h1b : (pe != 0) = true := by simp [h1]
                  have hx := Hx.out
                  rw [Hfirst.out h1] at hx
                  have Hy := Lib.hid hx
                  clear hx h1
                  go_wp2_with fail
                  try rw [Exit.noGoto_ret]
                  go_ret
                  rw [Hy.out]
                  exact ⟨rfl, Hb6.out⟩
              · have hx := Hx.out
                rw [cellsE_none (fun q hq => Hall.out q hq (by have := Hj.out; omega))] at hx
                have Hy := Lib.hid hx
                clear hx
                go_wp2_with fail
                try rw [Exit.noGoto_ret]
                go_ret
                rw [Hy.out]
                exact ⟨rfl, Hb.out⟩
          · have h1b : ((cells.length : Int) != 1) = true := by simp; omega
            have hx := Hv.out
            rw [if_pos (.inr h1)] at hx
            have Hx := Lib.hid hx
            clear hx h0 h1
            go_wp2_with fail
            try rw [Exit.noGoto_ret]
            go_ret
            rw [Hx.out]
            exact ⟨rfl, Hb3.out.alloc Hb3.out.size _⟩

set_option maxRecDepth 100000 in
set_option maxHeartbeats 8000000 in
theorem check_2 (i ep : Int) (cells : List Cell) (f t : Cell) (lim : Int) (pa : Option Addr) (ca : Nat) (w : World) (hs : Sl 3 cellL w pa cells) (hl : cells.length ≤ 1000000000) :
    Calls Try.prog 32 #[.agg (Rq.at ⟨2, i, ep, cells, f, t, lim⟩ pa ca)] w fun e w' => e = .returned (.int .i64 (chkRq ⟨2, i, ep, cells, f, t, lim⟩)) ∧ Below w.heap.size w w' := by
  have hb0 : Below w.heap.size w (w.alloc (.cells (Rq.at ⟨2, i, ep, cells, f, t, lim⟩ pa ca) 48)) := (Below.refl _ _).alloc (Nat.le_refl _) _
  have hf0 : (w.alloc (.cells (Rq.at ⟨2, i, ep, cells, f, t, lim⟩ pa ca) 48)).heap[w.heap.size]? = some (.cells (Rq.at ⟨2, i, ep, cells, f, t, lim⟩ pa ca) 48 (0, 0)) := blk_at rfl
  have hv : ∀ x, chkRq ⟨2, i, ep, cells, f, t, lim⟩ = x → chkRq ⟨2, i, ep, cells, f, t, lim⟩ = x := fun x h => h
  have how : Rq.own ⟨2, i, ep, cells, f, t, lim⟩ = ⟨2, i, ep, cells, ⟨0, ByteArray.empty, 0⟩, ⟨0, ByteArray.empty, 0⟩, 0⟩ := by unfold Rq.own; simp
  have hask := fun W => asks_2 i ep cells f t lim pa ca W
  have hsame := fun W (hW : Below w.heap.size w W) => same_any ⟨2, i, ep, cells, f, t, lim⟩ ⟨2, i, ep, cells, ⟨0, ByteArray.empty, 0⟩, ⟨0, ByteArray.empty, 0⟩, 0⟩ pa pa ca ca W (hs.below hW) (hs.below hW) hl
  have hq : sameRq ⟨2, i, ep, cells, f, t, lim⟩ (Rq.own ⟨2, i, ep, cells, f, t, lim⟩) = sameRq ⟨2, i, ep, cells, f, t, lim⟩ ⟨2, i, ep, cells, ⟨0, ByteArray.empty, 0⟩, ⟨0, ByteArray.empty, 0⟩, 0⟩ := by rw [how]
  generalize hsm : sameRq ⟨2, i, ep, cells, f, t, lim⟩ ⟨2, i, ep, cells, ⟨0, ByteArray.empty, 0⟩, ⟨0, ByteArray.empty, 0⟩, 0⟩ = sm at *
  have Hb0 := Lib.hid hb0
  have Hf0 := Lib.hid hf0
  have Hask := Lib.hid hask
  have Hsame := Lib.hid hsame
  have Hq := Lib.hid hq
  have Hs := Lib.hid hs
  clear hb0 hf0 hv how hask hsame hq hsm hs
  have tacells := fun W => ta_hit (P := Try.prog) (xT := 20) Try.underlying133 (.agg #[.int .i64 ep, .slice pa cells.length ca]) W
  go_enter Try.func32, Try.ntmps32
  go_wp2_with fail
  refine (Hask.out _).mono ?_
  rintro e w1 ⟨rfl, hb1⟩
  have hz1 : w.heap.size < w1.heap.size := by have := hb1.size; simp at this; omega
  have hf1 := (hb1.block _ (by simp)).trans Hf0.out
  have hb1' := Hb0.out.trans (hb1.mono Hb0.out.size)
  have hb2 : Below w.heap.size w (w1.alloc (.cells (Rq.at ⟨2, i, ep, cells, ⟨0, ByteArray.empty, 0⟩, ⟨0, ByteArray.empty, 0⟩, 0⟩ pa ca) 48)) := hb1'.alloc hb1'.size _
  have hf2 : (w1.alloc (.cells (Rq.at ⟨2, i, ep, cells, ⟨0, ByteArray.empty, 0⟩, ⟨0, ByteArray.empty, 0⟩, 0⟩ pa ca) 48)).heap[w.heap.size]? = some (.cells (Rq.at ⟨2, i, ep, cells, f, t, lim⟩ pa ca) 48 (0, 0)) := (blk_old hz1).trans hf1
  have hg2 : (w1.alloc (.cells (Rq.at ⟨2, i, ep, cells, ⟨0, ByteArray.empty, 0⟩, ⟨0, ByteArray.empty, 0⟩, 0⟩ pa ca) 48)).heap[w1.heap.size]? = some (.cells (Rq.at ⟨2, i, ep, cells, ⟨0, ByteArray.empty, 0⟩, ⟨0, ByteArray.empty, 0⟩, 0⟩ pa ca) 48 (0, 0)) := blk_at rfl
  have q1 := cell_blk hf1 1
  simp at q1
  simp only [Rq.at, List.length_nil] at hb2 hf2 hg2
  have Hb2 := Lib.hid hb2
  have Hf2 := Lib.hid hf2
  have Hg2 := Lib.hid hg2
  clear hb1 hb1' hf1 hb2 hf2 hg2
  go_wp2_with fail
  clear q1
  generalize hW2 : World.alloc w1 _ = W2 at *
  have Hw2 := Lib.hid hW2
  clear hW2
  refine (small_any i _).mono ?_
  rintro e w2 ⟨rfl, rfl⟩
  cases hsi : isSmall i
  · have hv : chkRq ⟨2, i, ep, cells, f, t, lim⟩ = 16 := by unfold chkRq; rw [if_neg (by simp), if_pos (.inl hsi)]
    have Hv := Lib.hid hv
    clear hv hsi
    go_wp2_with fail
    go_ret
    rw [Hv.out]
    exact ⟨rfl, Hb2.out⟩
  · have Hsi := Lib.hid hsi
    clear hsi
    have q0 := cell_blk Hf2.out 0
    have q1 := cell_blk Hf2.out 1
    have q2 := cell_blk Hf2.out 2
    have q3 := cell_blk Hf2.out 3
    have q4 := cell_blk Hf2.out 4
    have q5 := cell_blk Hf2.out 5
    have q6 := cell_blk Hf2.out 6
    have q7 := cell_blk Hf2.out 7
    have q8 := cell_blk Hf2.out 8
    have q9 := cell_blk Hf2.out 9
    have q10 := cell_blk Hf2.out 10
    have r0 := cell_blk Hg2.out 0
    have r1 := cell_blk Hg2.out 1
    have r2 := cell_blk Hg2.out 2
    have r3 := cell_blk Hg2.out 3
    have r4 := cell_blk Hg2.out 4
    have r5 := cell_blk Hg2.out 5
    have r6 := cell_blk Hg2.out 6
    have r7 := cell_blk Hg2.out 7
    have r8 := cell_blk Hg2.out 8
    have r9 := cell_blk Hg2.out 9
    have r10 := cell_blk Hg2.out 10
    simp at q0 q1 q2 q3 q4 q5 q6 q7 q8 q9 q10 r0 r1 r2 r3 r4 r5 r6 r7 r8 r9 r10
    go_wp2_with fail
    refine (Hsame.out _ Hb2.out).mono ?_
    rintro e w3 ⟨rfl, hb3⟩
    have hz3 := hb3.size
    have hl2 := lt_of_block Hf2.out
    have hl3 : w.heap.size < w3.heap.size := by omega
    have Hf3 := Lib.hid ((hb3.block _ hl2).trans Hf2.out)
    have Hb3 := Lib.hid (Hb2.out.trans (hb3.mono Hb2.out.size))
    clear hb3 q0 q1 q2 q3 q4 q5 q6 q7 q8 q9 q10 r0 r1 r2 r3 r4 r5 r6 r7 r8 r9 r10
    cases sm
    · have hv : chkRq ⟨2, i, ep, cells, f, t, lim⟩ = 16 := by unfold chkRq; rw [if_neg (by simp), if_pos (.inr (.inl Hq.out))]
      have Hv := Lib.hid hv
      clear hv
      go_wp2_with fail
      go_ret
      rw [Hv.out]
      exact ⟨rfl, Hb3.out⟩
    · have q2 := cell_blk Hf3.out 2
      have q0 := cell_blk Hf3.out 0
      simp at q0 q2
      go_wp2_with fail
      refine (small_any ep _).mono ?_
      rintro e w4 ⟨rfl, rfl⟩
      cases hse : isSmall ep
      · have hv : chkRq ⟨2, i, ep, cells, f, t, lim⟩ = 16 := by unfold chkRq; rw [if_neg (by simp), if_pos (.inr (.inr hse))]
        have Hv := Lib.hid hv
        clear hv hse
        go_wp2_with fail
        go_ret
        rw [Hv.out]
        exact ⟨rfl, Hb3.out⟩
      · have hv : chkRq ⟨2, i, ep, cells, f, t, lim⟩ = (if cells.length = 0 then 16 else if 16 < cells.length then 2 else cellsE cells) := by
          unfold chkRq
          rw [if_neg (by simp), if_neg (by rw [Hq.out, Hsi.out, hse]; simp)]
          simp
        have Hv := Lib.hid hv
        clear hv hse

        by_cases h0 : cells.length = 0
        · have h0b : ((cells.length : Int) == 0) = true := by rw [h0]; rfl
          have hx := Hv.out
          rw [if_pos h0] at hx
          have Hx := Lib.hid hx
          clear hx h0
          go_wp2_with fail
          try rw [Exit.noGoto_ret]
          go_ret
          rw [Hx.out]
          exact ⟨rfl, Hb3.out.alloc Hb3.out.size _⟩
        · have h0b : ((cells.length : Int) == 0) = false := by rw [beq_eq_false_iff_ne]; omega
          by_cases h1 : 16 < (cells.length : Int)
          · have hx := Hv.out
            rw [if_neg h0, if_pos (by omega)] at hx
            have Hx := Lib.hid hx
            clear hx h0
            go_wp2_with fail
            try rw [Exit.noGoto_ret]
            go_ret
            rw [Hx.out]
            exact ⟨rfl, Hb3.out.alloc Hb3.out.size _⟩
          · have hx := Hv.out
            rw [if_neg h0, if_neg (by omega)] at hx
            have Hx := Lib.hid hx
            clear hx h0
            have hb4 : ∀ o, Below w.heap.size w (w3.alloc o) := fun o => Hb3.out.alloc Hb3.out.size _
            have Hb4 := Lib.hid hb4
            clear hb4
            go_wp2_with fail
            go_loopg [64] cells.length (fun g s64 wr => ∃ j : Nat, j + g = cells.length ∧ s64 = .int .i64 j ∧ (∀ q (hq : q < cells.length), q < j → placeE cells[q] 3 1 = 0) ∧ Below w.heap.size w wr)
            case atStart => exact ⟨0, by omega, rfl, fun q _ h => absurd h (Nat.not_lt_zero _), Hb4.out _⟩
            case round =>
              obtain ⟨j, hj, rfl, hall, hb⟩ := hrel
              have Hj := Lib.hid hj
              have Hall := Lib.hid hall
              have Hb := Lib.hid hb
              clear hj hall hb
              by_cases hlt : j < cells.length
              · obtain ⟨ob, oo, rfl, hob, h0, h1, h2⟩ := Hs.out.at3 hlt rfl
                have d0 := (Hb.out.cell (p := ⟨ob, _, none⟩) hob).trans h0
                have d1 := (Hb.out.cell (p := ⟨ob, _, none⟩) hob).trans h1
                have d2 := (Hb.out.cell (p := ⟨ob, _, none⟩) hob).trans h2
                have hce := fun W => cellE_any cells[j].v cells[j].k cells[j].s W
                rw [show (⟨cells[j].v, cells[j].k, cells[j].s⟩ : Cell) = cells[j] from rfl] at hce
                have hfirst := fun hn => cellsE_first hlt (fun q hq hqj => Hall.out q hq hqj) hn
                generalize hpe : placeE cells[j] 3 1 = pe at *
                have Hpe := Lib.hid hpe
                have Hfirst := Lib.hid hfirst
                have Hce := Lib.hid hce
                clear h0 h1 h2 hpe hfirst hce
                generalize cells[j].v = x at *
                generalize cells[j].k = y at *
                generalize cells[j].s = z at *
                go_wp2_with fail
                refine (Hce.out _).mono ?_
                rintro e w6 ⟨rfl, hb6⟩
                have Hb6 := Lib.hid ((Hb.out.alloc Hb.out.size _).trans (hb6.mono (by have := Hb.out.size; simp; omega)))
                clear hb6
                by_cases h1 : pe = 0
                · have h1b : (pe != 0) = false := by simp [h1]
                  have H1 := Lib.hid h1
                  clear h1
                  go_wp2_with fail
                  go_roundg (gk - 1)
                  case measure => have := Hj.out; omega
                  case rel =>
                    refine ⟨j + 1, by have := Hj.out; omega, by go_num, fun q hq hqj => ?_, Hb6.out⟩
                    by_cases e : q = j
                    · subst e; exact Hpe.out.trans H1.out
                    · exact Hall.out q hq (by omega)
                · have h1b : (pe != 0) = true := by simp [h1]
                  have hx := Hx.out
                  rw [Hfirst.out h1] at hx
                  have Hy := Lib.hid hx
                  clear hx h1
                  go_wp2_with fail
                  try rw [Exit.noGoto_ret]
                  go_ret
                  rw [Hy.out]
                  exact ⟨rfl, Hb6.out⟩
              · have hx := Hx.out
                rw [cellsE_none (fun q hq => Hall.out q hq (by have := Hj.out; omega))] at hx
                have Hy := Lib.hid hx
                clear hx
                go_wp2_with fail
                try rw [Exit.noGoto_ret]
                go_ret
                rw [Hy.out]
                exact ⟨rfl, Hb.out⟩

set_option maxRecDepth 100000 in
set_option maxHeartbeats 8000000 in
theorem check_0 (k i ep : Int) (cells : List Cell) (f t : Cell) (lim : Int) (pa : Option Addr) (ca : Nat) (w : World) (hk : k ≠ 1 ∧ k ≠ 2 ∧ k ≠ 3 ∧ k ≠ 4 ∧ k ≠ 5 ∧ k ≠ 6 ∧ k ≠ 7) :
    Calls Try.prog 32 #[.agg (Rq.at ⟨k, i, ep, cells, f, t, lim⟩ pa ca)] w fun e w' => e = .returned (.int .i64 (chkRq ⟨k, i, ep, cells, f, t, lim⟩)) ∧ Below w.heap.size w w' := by
  have hb0 : Below w.heap.size w (w.alloc (.cells (Rq.at ⟨k, i, ep, cells, f, t, lim⟩ pa ca) 48)) := (Below.refl _ _).alloc (Nat.le_refl _) _
  have hv : chkRq ⟨k, i, ep, cells, f, t, lim⟩ = 15 := by unfold chkRq; rw [if_pos (by show k < 1 ∨ 7 < k; omega)]
  have hask := fun W => asks_0 k i ep cells f t lim pa ca W hk
  rw [hv]
  have Hb0 := Lib.hid hb0
  have Hask := Lib.hid hask
  clear hb0 hv hask hk
  go_enter Try.func32, Try.ntmps32
  go_wp2_with fail
  refine (Hask.out _).mono ?_
  rintro e w1 ⟨rfl, hb1⟩
  have hb1' := Hb0.out.trans (hb1.mono Hb0.out.size)
  have Hb2 := Lib.hid (fun o : Obj => hb1'.alloc hb1'.size o)
  clear hb1 hb1'
  go_wp2_with fail
  go_ret
  exact ⟨rfl, Hb2.out _⟩
/-- CheckRequest, whatever it is handed. -/
theorem chkRq_any (q : Rq) (pa : Option Addr) (ca : Nat) (w : World) (hs : Sl 3 cellL w pa q.cells) (hl : q.cells.length ≤ 1000000000) :
    Calls Try.prog 32 #[.agg (q.at pa ca)] w fun e w' => e = .returned (.int .i64 (chkRq q)) ∧ Below w.heap.size w w' := by
  obtain ⟨k, i, ep, cells, f, t, lim⟩ := q
  by_cases h1 : k = 1
  · subst h1; exact check_1 i ep cells f t lim pa ca w hs hl
  · by_cases h2 : k = 2
    · subst h2; exact check_2 i ep cells f t lim pa ca w hs hl
    · by_cases h3 : k = 3
      · subst h3; exact check_3 i ep cells f t lim pa ca w hs hl
      · by_cases h4 : k = 4
        · subst h4; exact check_4 i ep cells f t lim pa ca w hs hl
        · by_cases h5 : k = 5
          · subst h5; exact check_5 i ep cells f t lim pa ca w hs hl
          · by_cases h6 : k = 6
            · subst h6; exact check_6 i ep cells f t lim pa ca w hs hl
            · by_cases h7 : k = 7
              · subst h7; exact check_7 i ep cells f t lim pa ca w hs hl
              · exact check_0 k i ep cells f t lim pa ca w ⟨h1, h2, h3, h4, h5, h6, h7⟩
end Go.Proofs.Ytaicecnfodhlcaa
