/- read of a Get, a Multi. -/
import Derived.Test.YtaicecnfodhlcaaJ18
import Derived.Test.YtaicecnfodhlcaaJ02
set_option linter.unusedVariables false
set_option linter.unusedSimpArgs false
namespace Go.Proofs.Ytaicecnfodhlcaa
open Go.RowKit Go.Deep

theorem st_rowG : SlT Try.prog 37 53 7 64 := SlT.mk' (z := .agg #[.int .i64 0, .string ByteArray.empty, .int .i64 0, .int .i64 0, .int .i64 0, .int .i64 0, .int .i64 0]) Try.underlying37 (by decide) (by kernel_rfl) rfl
theorem app_row (W : World) (E : Nat) (v : Value) (xs : List Rw) (hown : Own 53 7 rowL E W v xs) (hE : E ≤ W.heap.size) (g : Nat) (r : Rw) (hg : W.heap[g]? = some (.cells #[.int .i64 r.cell.v, .string r.cell.k, .int .i64 r.cell.s, .int .i64 r.agg.c, .int .i64 r.agg.s, .int .i64 r.agg.mn, .int .i64 r.agg.mx] 53 (0, 0))) (hl : xs.length ≤ 100000000) :
    ∃ v' w', (∀ ty, (Builtin.append_ #[37, 37] ty #[v, .slice (some ⟨g, 0, none⟩) 1 1]).run Try.prog W = .ok v' w') ∧ Own 53 7 rowL E w' v' (xs ++ [r]) ∧ (v'.ownBlock = v.ownBlock ∨ v'.ownBlock = some W.heap.size) ∧ W.grownBy w' v.ownBlock := by
  obtain ⟨ht, hsz, i, z, hi, hz0, hsize, hbytes, hzs⟩ := st_rowG
  obtain ⟨v', w', hr, h2, h3, h4, h5⟩ := run_append_own_at (P := Try.prog) W E 37 0 53 i z 7 64 ht hi hz0 hsize hbytes hzs hsz v xs.length (xs.flatMap rowL) hown ⟨g, 0, none⟩ 1 1 (rowL r) rfl
    (fun j u hu => by
      have hc := cell_blk hg j
      rw [add_none, Nat.zero_add, hc]
      simpa using hu) (fun u hu => by simp at hu; rcases hu with rfl | rfl | rfl | rfl | rfl | rfl | rfl <;> rfl) (by unfold maxLen; omega) (by omega) hE
  refine ⟨v', w', fun ty => hr, ?_, by first | exact h5 | exact h4, h3⟩
  unfold Own
  simpa using h2
theorem getRows_snoc (L : List Rw) (cs : List Cell) {j : Nat} (hj : j < cs.length) : getRows L (cs.take (j + 1)) = getRows L (cs.take j) ++ [⟨cs[j], getA L cs[j]⟩] := by
  unfold getRows
  rw [List.take_add_one, List.getElem?_eq_getElem hj]
  simp only [Option.toList, List.map_append, List.map_cons, List.map_nil]
theorem getRows_len (L : List Rw) (cs : List Cell) {j : Nat} (hj : j ≤ cs.length) : (getRows L (cs.take j)).length = j := by
  unfold getRows
  rw [List.length_map, List.length_take]
  omega
/-- What the drawn region reads. -/
structure GetS (n0 bL : Nat) (cv : Int) (ck : ByteArray) (cs ac au an ax : Int) (W : World) : Prop where
  a0 : W.cell? ⟨n0, 0, none⟩ = some (.int .i64 cv)
  a1 : W.cell? ⟨n0, 1, none⟩ = some (.string ck)
  a2 : W.cell? ⟨n0, 2, none⟩ = some (.int .i64 cs)
  lk : (Instr.lookup 83 (.map (some bL)) (.agg #[.int .i64 cv, .string ck, .int .i64 cs]) false).run Try.prog W = .ok (.agg #[.int .i64 ac, .int .i64 au, .int .i64 an, .int .i64 ax]) W

set_option maxRecDepth 100000 in
set_option maxHeartbeats 16000000 in
theorem read_get0 {w : World} {B : MB} {S : Mst} (h : IsModel w B S) (s k i ep : Int) (qa : Option Addr) (cells : List Cell) (qc : Nat) (f t : Cell) (lim : Int) (hqs : Sl 3 cellL w qa cells) (hcl : cells.length ≤ 100000000) (hk3 : k ≠ 3) :
    Calls Try.prog 35 #[.pointer (some ⟨B.mp, 0, none⟩), .int .i64 s, .agg #[.int .i64 k, .int .i64 i, .int .i64 0, .slice qa cells.length qc, .int .i64 f.v, .string f.k, .int .i64 f.s, .int .i64 t.v, .string t.k, .int .i64 t.s, .int .i64 lim]] w
      (Says w B (S, 0, ⟨1, 0, 0, 0, getRows S.L cells, 0, 0, 0, 0, 0, 0⟩)) := by
  have hb1 : Below w.heap.size w ((w.alloc (.cells #[.int .i64 k, .int .i64 i, .int .i64 0, .slice qa cells.length qc, .int .i64 f.v, .string f.k, .int .i64 f.s, .int .i64 t.v, .string t.k, .int .i64 t.s, .int .i64 lim] 48)).alloc respO) := ((Below.refl _ _).alloc (Nat.le_refl _) _).alloc (by simp) _
  have hf1 : ((w.alloc (.cells #[.int .i64 k, .int .i64 i, .int .i64 0, .slice qa cells.length qc, .int .i64 f.v, .string f.k, .int .i64 f.s, .int .i64 t.v, .string t.k, .int .i64 t.s, .int .i64 lim] 48)).alloc respO).heap[w.heap.size + 1]? = some respO := blk_at (by simp)
  have hq1 : ((w.alloc (.cells #[.int .i64 k, .int .i64 i, .int .i64 0, .slice qa cells.length qc, .int .i64 f.v, .string f.k, .int .i64 f.s, .int .i64 t.v, .string t.k, .int .i64 t.s, .int .i64 lim] 48)).alloc respO).heap[w.heap.size]? = some (.cells #[.int .i64 k, .int .i64 i, .int .i64 0, .slice qa cells.length qc, .int .i64 f.v, .string f.k, .int .i64 f.s, .int .i64 t.v, .string t.k, .int .i64 t.s, .int .i64 lim] 48 (0, 0)) := (blk_old (by simp)).trans (blk_at rfl)
  have hM1 := h.below hb1
  have hz1 : ((w.alloc (.cells #[.int .i64 k, .int .i64 i, .int .i64 0, .slice qa cells.length qc, .int .i64 f.v, .string f.k, .int .i64 f.s, .int .i64 t.v, .string t.k, .int .i64 t.s, .int .i64 lim] 48)).alloc respO).heap.size = w.heap.size + 2 := by simp
  have c12 := hM1.parts.pinS.2
  have hk3b : (k != 3) = true := by simp [hk3]
  have hmapA : ∀ W, Below w.heap.size w W → HasMap W B.bt S.L := fun W hW => (h.below hW).there.map
  have Hh := Lib.hid h
  have Hb1 := Lib.hid hb1
  have Hf1 := Lib.hid hf1
  have Hq1 := Lib.hid hq1
  have Hmap := Lib.hid hmapA
  clear h hb1 hf1 hq1 hM1 hmapA hk3
  generalize B.bt = bL at *
  generalize S.L = L at *
  go_enter Try.func35, Try.ntmps35
  go_wp2_with fail
  generalize hW3 : World.alloc _ (resp1 (.slice none 0 0)) = w3
  have hb3 : Below w.heap.size w w3 := by rw [← hW3]; exact Hb1.out.alloc Hb1.out.size _
  have s1 : w3.heap[w.heap.size + 1]? = some respO := by rw [← hW3]; exact (blk_old (by simp)).trans Hf1.out
  have s2 : w3.heap[w.heap.size + 2]? = some (resp1 (.slice none 0 0)) := by rw [← hW3]; exact blk_at (by simp)
  clear hW3
  have l3 := lt_of_block s2
  have Hb3 := Lib.hid hb3
  have Hs1 := Lib.hid s1
  have Hs2 := Lib.hid s2
  clear hb3 s1 s2 c12 hz1
  go_loopg [47] cells.length (fun g i wr => ∃ (j : Nat) (v : Value), j + g = cells.length ∧ i = .int .i64 j ∧ Own 53 7 rowL w3.heap.size wr v (getRows L (cells.take j)) ∧ wr.heap[w.heap.size + 2]? = some (resp1 v) ∧ Below (w.heap.size + 2) w3 wr)
  case atStart => exact ⟨0, .slice none 0 0, by omega, rfl, Own.nil _ _ _ _ _, Hs2.out, Below.refl _ _⟩
  case round =>
    obtain ⟨j, v, hj, rfl, hown, hblk, hb⟩ := hrel
    have hbw : Below w.heap.size w wr := Hb3.out.trans (hb.mono (by omega))
    have hz := hb.size
    have Hj := Lib.hid hj
    by_cases hlt : j < cells.length
    · obtain ⟨cb, co, hqe, hcb, x0, x1, x2⟩ := hqs.at3 hlt rfl
      have d0 := (hbw.cell (p := ⟨cb, _, none⟩) hcb).trans x0
      have d1 := (hbw.cell (p := ⟨cb, _, none⟩) hcb).trans x1
      have d2 := (hbw.cell (p := ⟨cb, _, none⟩) hcb).trans x2
      have hsn := getRows_snoc L cells hlt
      have hln := getRows_len L cells (Nat.le_of_lt hlt)
      have hgt : ∀ W, Below w.heap.size w W → (Instr.lookup 83 (.map (some bL)) (.agg #[.int .i64 cells[j].v, .string cells[j].k, .int .i64 cells[j].s]) false).run Try.prog W = .ok (.agg #[.int .i64 (getA L cells[j]).c, .int .i64 (getA L cells[j]).s, .int .i64 (getA L cells[j]).mn, .int .i64 (getA L cells[j]).mx]) W := fun W hW => (Hmap.out W hW).get cells[j].v cells[j].k cells[j].s false
      generalize hce : cells[j] = ce at *
      generalize hag : getA L ce = ag at *
      obtain ⟨cv, ck, cs⟩ := ce
      obtain ⟨ac, au, an, ax⟩ := ag
      dsimp only at *
      obtain ⟨oa, oc, rfl, _⟩ := hown.sl fun _ => rfl
      -- the worlds of the region
      have hb4 : Below wr.heap.size wr (wr.alloc (.cells #[.int .i64 cv, .string ck, .int .i64 cs] 46)) := (Below.refl _ _).alloc (Nat.le_refl _) _
      have hc4 : (wr.alloc (.cells #[.int .i64 cv, .string ck, .int .i64 cs] 46)).heap[wr.heap.size]? = some (.cells #[.int .i64 cv, .string ck, .int .i64 cs] 46 (0, 0)) := blk_at rfl
      have hz4 : (wr.alloc (.cells #[.int .i64 cv, .string ck, .int .i64 cs] 46)).heap.size = wr.heap.size + 1 := by simp
      have hb5 : Below (wr.heap.size + 1) (wr.alloc (.cells #[.int .i64 cv, .string ck, .int .i64 cs] 46)) ((wr.alloc (.cells #[.int .i64 cv, .string ck, .int .i64 cs] 46)).drew.alloc (.cells #[.int .i64 cv, .string ck, .int .i64 cs, .int .i64 ac, .int .i64 au, .int .i64 an, .int .i64 ax] 53)) := (Below.refl _ _).drew.alloc (by show wr.heap.size + 1 ≤ (wr.alloc _).heap.size; omega) _
      have hg5 : ((wr.alloc (.cells #[.int .i64 cv, .string ck, .int .i64 cs] 46)).drew.alloc (.cells #[.int .i64 cv, .string ck, .int .i64 cs, .int .i64 ac, .int .i64 au, .int .i64 an, .int .i64 ax] 53)).heap[wr.heap.size + 1]? = some (.cells #[.int .i64 cv, .string ck, .int .i64 cs, .int .i64 ac, .int .i64 au, .int .i64 an, .int .i64 ax] 53 (0, 0)) := blk_at (by show wr.heap.size + 1 = (wr.alloc _).heap.size; omega)
      have hz5 : ((wr.alloc (.cells #[.int .i64 cv, .string ck, .int .i64 cs] 46)).drew.alloc (.cells #[.int .i64 cv, .string ck, .int .i64 cs, .int .i64 ac, .int .i64 au, .int .i64 an, .int .i64 ax] 53)).heap.size = wr.heap.size + 2 := by simp
      have hown5 := (hown.below hb4).below (hb5.mono (by omega))
      obtain ⟨v', w6, hrun, hown6, hv6, hg6⟩ := app_row _ w3.heap.size _ _ hown5 (by rw [hz5]; omega) (wr.heap.size + 1) ⟨⟨cv, ck, cs⟩, ⟨ac, au, an, ax⟩⟩ hg5 (by rw [hln]; omega)
      obtain ⟨oa', oc', rfl, _⟩ := hown6.sl fun _ => rfl
      have hoge : ∀ g, (Value.slice oa (getRows L (cells.take j)).length oc).ownBlock = some g → w3.heap.size ≤ g ∧ g < wr.heap.size := fun g hg => hown.ge hg
      have hk6 : ∀ g, g < w3.heap.size ∨ wr.heap.size ≤ g → g < wr.heap.size + 2 → w6.heap[g]? = ((wr.alloc (.cells #[.int .i64 cv, .string ck, .int .i64 cs] 46)).drew.alloc (.cells #[.int .i64 cv, .string ck, .int .i64 cs, .int .i64 ac, .int .i64 au, .int .i64 an, .int .i64 ax] 53)).heap[g]? := fun g h1 h2 => hg6.block g (by rw [hz5]; exact h2) (fun e => by have := hoge g e.symm; omega)
      have hc5 := (hb5.block wr.heap.size (by omega)).trans hc4
      have hc6 := (hk6 wr.heap.size (Or.inr (Nat.le_refl _)) (by omega)).trans hc5
      have hbw4 : Below w.heap.size w (wr.alloc (.cells #[.int .i64 cv, .string ck, .int .i64 cs] 46)) := hbw.trans (hb4.mono hbw.size)
      have hbw5 := hbw4.trans (hb5.mono (by have := hbw.size; omega))
      have hb26 : Below (w.heap.size + 2) wr w6 := ⟨hg6.os.trans (hb5.os.trans hb4.os), hg6.tape.trans (hb5.tape.trans hb4.tape), hg6.output.trans (hb5.output.trans hb4.output), by have := hg6.size; omega, fun g hg => (hk6 g (Or.inl (by omega)) (by omega)).trans ((hb5.block g (by omega)).trans (hb4.block g (by omega)))⟩
      have hbw6 : Below w.heap.size w w6 := hbw.trans (hb26.mono (by omega))
      have hr6 : w6.heap[w.heap.size + 2]? = some (resp1 (.slice oa (getRows L (cells.take j)).length oc)) := (hk6 _ (Or.inl (by omega)) (by omega)).trans ((hb5.block _ (by omega)).trans ((hb4.block _ (by omega)).trans hblk))
      have hr4 : (wr.alloc (.cells #[.int .i64 cv, .string ck, .int .i64 cs] 46)).heap[w.heap.size + 2]? = some (resp1 (.slice oa (getRows L (cells.take j)).length oc)) := (hb4.block _ (by omega)).trans hblk
      have hr5 := (hb5.block _ (by omega)).trans hr4
      have kS0 : GetS wr.heap.size bL cv ck cs ac au an ax (wr.alloc (.cells #[.int .i64 cv, .string ck, .int .i64 cs] 46)).drew := ⟨cell_blk hc4 0, cell_blk hc4 1, cell_blk hc4 2, hgt _ hbw4.drew⟩
      have kS1 : GetS wr.heap.size bL cv ck cs ac au an ax ((wr.alloc (.cells #[.int .i64 cv, .string ck, .int .i64 cs] 46)).drew.alloc (.cells #[.int .i64 cv, .string ck, .int .i64 cs, .int .i64 ac, .int .i64 au, .int .i64 an, .int .i64 ax] 53)) := ⟨cell_blk hc5 0, cell_blk hc5 1, cell_blk hc5 2, hgt _ hbw5⟩
      have kS2 : GetS wr.heap.size bL cv ck cs ac au an ax w6 := ⟨cell_blk hc6 0, cell_blk hc6 1, cell_blk hc6 2, hgt _ hbw6⟩
      have kS3 : GetS wr.heap.size bL cv ck cs ac au an ax (w6.setCell ⟨w.heap.size + 2, 4, none⟩ (.slice oa' (getRows L (cells.take j) ++ [(⟨⟨cv, ck, cs⟩, ⟨ac, au, an, ax⟩⟩ : Rw)]).length oc')) := by
        have hc7 : (w6.setCell ⟨w.heap.size + 2, 4, none⟩ (.slice oa' (getRows L (cells.take j) ++ [(⟨⟨cv, ck, cs⟩, ⟨ac, au, an, ax⟩⟩ : Rw)]).length oc')).heap[wr.heap.size]? = _ := blk_set hc6 (by omega)
        exact ⟨cell_blk hc7 0, cell_blk hc7 1, cell_blk hc7 2, hgt _ (hbw6.setCell (p := ⟨w.heap.size + 2, 4, none⟩) (by show w.heap.size ≤ w.heap.size + 2; omega) _)⟩
      have rf6 := frozen_blk hr6
      have p4 : (wr.alloc (.cells #[.int .i64 cv, .string ck, .int .i64 cs] 46)).drew.cell? ⟨w.heap.size + 2, 4, none⟩ = some (.slice oa (getRows L (cells.take j)).length oc) := cell_blk (drew_blk hr4) 4
      have p5 : ((wr.alloc (.cells #[.int .i64 cv, .string ck, .int .i64 cs] 46)).drew.alloc (.cells #[.int .i64 cv, .string ck, .int .i64 cs, .int .i64 ac, .int .i64 au, .int .i64 an, .int .i64 ax] 53)).cell? ⟨w.heap.size + 2, 4, none⟩ = some (.slice oa (getRows L (cells.take j)).length oc) := cell_blk hr5 4
      have p5b : ((wr.alloc (.cells #[.int .i64 cv, .string ck, .int .i64 cs] 46)).alloc (.cells #[.int .i64 cv, .string ck, .int .i64 cs, .int .i64 ac, .int .i64 au, .int .i64 an, .int .i64 ax] 53)).cell? ⟨w.heap.size + 2, 4, none⟩ = some (.slice oa (getRows L (cells.take j)).length oc) := p5
      have p6 : w6.cell? ⟨w.heap.size + 2, 4, none⟩ = some (.slice oa (getRows L (cells.take j)).length oc) := cell_blk hr6 4
      have hfin : ∃ (j' : Nat) (v : Value), j' + (gk - 1) = cells.length ∧ Value.int .i64 ((j : Int) + 1) = .int .i64 j' ∧ Own 53 7 rowL w3.heap.size (w6.setCell ⟨w.heap.size + 2, 4, none⟩ (.slice oa' (getRows L (cells.take j) ++ [(⟨⟨cv, ck, cs⟩, ⟨ac, au, an, ax⟩⟩ : Rw)]).length oc')) v (getRows L (cells.take j')) ∧ (w6.setCell ⟨w.heap.size + 2, 4, none⟩ (.slice oa' (getRows L (cells.take j) ++ [(⟨⟨cv, ck, cs⟩, ⟨ac, au, an, ax⟩⟩ : Rw)]).length oc')).heap[w.heap.size + 2]? = some (resp1 v) ∧ Below (w.heap.size + 2) w3 (w6.setCell ⟨w.heap.size + 2, 4, none⟩ (.slice oa' (getRows L (cells.take j) ++ [(⟨⟨cv, ck, cs⟩, ⟨ac, au, an, ax⟩⟩ : Rw)]).length oc')) := by
        refine ⟨j + 1, .slice oa' (getRows L (cells.take j) ++ [(⟨⟨cv, ck, cs⟩, ⟨ac, au, an, ax⟩⟩ : Rw)]).length oc', by omega, by simp, ?_, set_obj hr6 4 _, (hb.trans hb26).setCell (p := ⟨w.heap.size + 2, 4, none⟩) (Nat.le_refl _) _⟩
        rw [hsn]
        refine hown6.keep fun g hg _ => Below.heap_setCell _ _ _ _ ?_
        have := (hown6.ge hg).1
        show g ≠ w.heap.size + 2
        omega
      have Hfin := Lib.hid hfin
      have Hrun := Lib.hid hrun
      have hrun := Hrun.out
      generalize hn1 : (getRows L (cells.take j) ++ [(⟨⟨cv, ck, cs⟩, ⟨ac, au, an, ax⟩⟩ : Rw)]).length = n1 at *
      generalize hn2 : (getRows L (cells.take j)).length = n2 at *
      have hjl : (j : Int) < (cells.length : Int) := by omega
      have hqe' := hqe
      have r0 := (Hb3.out.trans (hb.mono (by omega)) : Below w.heap.size w wr)
      clear hown hblk hb hbw hb4 hb5 hc4 hc5 hc6 hg5 hown5 hown6 hv6 hg6 hoge hk6 hbw4 hbw5 hbw6 hb26 hr4 hr5 hr6 hgt hfin hce hag hsn hln hn1 hn2 hz4 hz5 x0 x1 x2 r0 hj hqe'
      subst hqe
      go_wp2_with fail
      refine wp_region_held_drew (S := fun W => GetS wr.heap.size bL cv ck cs ac au an ax W) (by kernel_rfl) kS0 (fun hHeld => ?_)
      refine wpAnyH_takeD (i := 0) (oi := _) (d := 51) (v := ?va0) rfl (by kernel_rfl) (by kernel_rfl) (by kernel_rfl) (by kernel_rfl) (fun _ _ _ h => h) (Or.inl ⟨by kernel_rfl, ?ya0⟩) (by assumption) ?ra0
      case ya0 =>
        intro w' hSw
        obtain ⟨sA, sB, sC, sD⟩ := hSw
        go_simp
        try with_reducible rfl
      try simp only [Act.put, List.setIfInBounds_toArray, List.set_cons_zero, List.set_cons_succ]
      refine wpAnyH_takeD (i := 2) (oi := _) (d := 53) (v := ?va2) rfl (by kernel_rfl) (by kernel_rfl) (by kernel_rfl) (by kernel_rfl) (fun _ _ _ h => h) (Or.inl ⟨by kernel_rfl, ?ya2⟩) (by assumption) ?ra2
      case ya2 =>
        intro w' hSw
        obtain ⟨sA, sB, sC, sD⟩ := hSw
        go_simp
        try with_reducible rfl
      try simp only [Act.put, List.setIfInBounds_toArray, List.set_cons_zero, List.set_cons_succ]
      refine wpAnyH_takeD (i := 3) (oi := _) (d := 54) (v := ?va3) rfl (by kernel_rfl) (by kernel_rfl) (by kernel_rfl) (by kernel_rfl) (fun _ _ _ h => h) (Or.inl ⟨by kernel_rfl, ?ya3⟩) (by assumption) ?ra3
      case ya3 =>
        intro w' hSw
        obtain ⟨sA, sB, sC, sD⟩ := hSw
        go_simp
        try with_reducible rfl
      try simp only [Act.put, List.setIfInBounds_toArray, List.set_cons_zero, List.set_cons_succ]
      refine wpAnyH_takeD (i := 4) (oi := _) (d := 55) (v := ?va4) rfl (by kernel_rfl) (by kernel_rfl) (by kernel_rfl) (by kernel_rfl) (fun _ _ _ h => h) (Or.inl ⟨by kernel_rfl, ?ya4⟩) (by assumption) ?ra4
      case ya4 =>
        intro w' hSw
        obtain ⟨sA, sB, sC, sD⟩ := hSw
        go_simp
        try with_reducible rfl
      try simp only [Act.put, List.setIfInBounds_toArray, List.set_cons_zero, List.set_cons_succ]
      refine wpAnyH_takeD (i := 5) (oi := _) (d := 56) (v := ?va5) rfl (by kernel_rfl) (by kernel_rfl) (by kernel_rfl) (by kernel_rfl) (fun _ _ _ h => h) (Or.inl ⟨by kernel_rfl, ?ya5⟩) (by assumption) ?ra5
      case ya5 =>
        intro w' hSw
        obtain ⟨sA, sB, sC, sD⟩ := hSw
        go_simp
        try with_reducible rfl
      try simp only [Act.put, List.setIfInBounds_toArray, List.set_cons_zero, List.set_cons_succ]
      refine wpAnyH_takeD (i := 6) (oi := _) (d := 57) (v := ?va6) rfl (by kernel_rfl) (by kernel_rfl) (by kernel_rfl) (by kernel_rfl) (fun _ _ _ h => h) (Or.inl ⟨by kernel_rfl, ?ya6⟩) (by assumption) ?ra6
      case ya6 =>
        intro w' hSw
        obtain ⟨sA, sB, sC, sD⟩ := hSw
        go_simp
        try with_reducible rfl
      try simp only [Act.put, List.setIfInBounds_toArray, List.set_cons_zero, List.set_cons_succ]
      refine wpAnyH_ready (rs := [1, 7]) (by kernel_rfl) (by simp) ?_
      refine AllReadyH.cons (o := _) rfl (fun K hK => ?_) (AllReadyH.cons (o := _) rfl (fun K hK => ?_) AllReadyH.nil)
      · go_simp
        refine hK.out _ _ kS0 (fun _ => ?_)
        clear hK K
        try simp only [Act.put, List.setIfInBounds_toArray, List.set_cons_zero, List.set_cons_succ]
        refine wpAnyH_ready (rs := [7]) (by kernel_rfl) (by simp) ?_
        refine AllReadyH.cons (o := _) rfl (fun K hK => ?_) AllReadyH.nil
        go_simp
        refine hK.out _ _ kS1 (fun _ => ?_)
        clear hK K
        try simp only [Act.put, List.setIfInBounds_toArray, List.set_cons_zero, List.set_cons_succ]
        refine wpAnyH_ready (rs := [8]) (by kernel_rfl) (by simp) ?_
        refine AllReadyH.cons (o := _) rfl (fun K hK => ?_) AllReadyH.nil
        refine step_append_run (by rfl) _ _ _ (by rfl) (by rfl) (by rfl) hrun ?_
        refine hK.out _ _ kS2 (fun _ => ?_)
        clear hK K
        try simp only [Act.put, List.setIfInBounds_toArray, List.set_cons_zero, List.set_cons_succ]
        refine wpAnyH_takeD (i := 9) (oi := _) (d := 60) (v := ?vra9) rfl (by kernel_rfl) (by kernel_rfl) (by kernel_rfl) (by kernel_rfl) (fun _ _ _ h => h) (Or.inl ⟨by kernel_rfl, ?yra9⟩) (by assumption) ?rra9
        case yra9 =>
          intro w' hSw
          obtain ⟨sA, sB, sC, sD⟩ := hSw
          go_simp
          try with_reducible rfl
        try simp only [Act.put, List.setIfInBounds_toArray, List.set_cons_zero, List.set_cons_succ]
        refine wpAnyH_ready (rs := [10]) (by kernel_rfl) (by simp) ?_
        refine AllReadyH.cons (o := _) rfl (fun K hK => ?_) AllReadyH.nil
        go_simp
        refine hK.out _ _ kS3 (fun _ => ?_)
        clear hK K
        try simp only [Act.put, List.setIfInBounds_toArray, List.set_cons_zero, List.set_cons_succ]
        refine wpAnyH_done (by kernel_rfl) ?_ _
        go_wp2_with fail
        go_roundg (gk - 1)
        case measure => have := Hj.out; omega
        case rel => exact Hfin.out
      · go_simp
        refine hK.out _ _ kS1 (fun _ => ?_)
        clear hK K
        try simp only [Act.put, List.setIfInBounds_toArray, List.set_cons_zero, List.set_cons_succ]
        refine wpAnyH_ready (rs := [1]) (by kernel_rfl) (by simp) ?_
        refine AllReadyH.cons (o := _) rfl (fun K hK => ?_) AllReadyH.nil
        go_simp
        refine hK.out _ _ kS1 (fun _ => ?_)
        clear hK K
        try simp only [Act.put, List.setIfInBounds_toArray, List.set_cons_zero, List.set_cons_succ]
        refine wpAnyH_ready (rs := [8]) (by kernel_rfl) (by simp) ?_
        refine AllReadyH.cons (o := _) rfl (fun K hK => ?_) AllReadyH.nil
        refine step_append_run (by rfl) _ _ _ (by rfl) (by rfl) (by rfl) hrun ?_
        refine hK.out _ _ kS2 (fun _ => ?_)
        clear hK K
        try simp only [Act.put, List.setIfInBounds_toArray, List.set_cons_zero, List.set_cons_succ]
        refine wpAnyH_takeD (i := 9) (oi := _) (d := 60) (v := ?vrb9) rfl (by kernel_rfl) (by kernel_rfl) (by kernel_rfl) (by kernel_rfl) (fun _ _ _ h => h) (Or.inl ⟨by kernel_rfl, ?yrb9⟩) (by assumption) ?rrb9
        case yrb9 =>
          intro w' hSw
          obtain ⟨sA, sB, sC, sD⟩ := hSw
          go_simp
          try with_reducible rfl
        try simp only [Act.put, List.setIfInBounds_toArray, List.set_cons_zero, List.set_cons_succ]
        refine wpAnyH_ready (rs := [10]) (by kernel_rfl) (by simp) ?_
        refine AllReadyH.cons (o := _) rfl (fun K hK => ?_) AllReadyH.nil
        go_simp
        refine hK.out _ _ kS3 (fun _ => ?_)
        clear hK K
        try simp only [Act.put, List.setIfInBounds_toArray, List.set_cons_zero, List.set_cons_succ]
        refine wpAnyH_done (by kernel_rfl) ?_ _
        go_wp2_with fail
        go_roundg (gk - 1)
        case measure => have := Hj.out; omega
        case rel => exact Hfin.out
    · have hjn : j = cells.length := by omega
      subst hjn
      rw [List.take_length] at hown
      obtain ⟨oa, oc, rfl, _⟩ := hown.sl fun _ => rfl
      have t1 := (hb.block (w.heap.size + 1) (by omega)).trans Hs1.out
      have rf2 := frozen_blk hblk
      have rf1 := frozen_blk t1
      have x0 := cell_blk hblk 0
      have x1 := cell_blk hblk 1
      have x2 := cell_blk hblk 2
      have x3 := cell_blk hblk 3
      have x4 := cell_blk hblk 4
      have x5 := cell_blk hblk 5
      have x6 := cell_blk hblk 6
      have x7 := cell_blk hblk 7
      have x8 := cell_blk hblk 8
      have x9 := cell_blk hblk 9
      have x10 := cell_blk hblk 10
      simp at x0 x1 x2 x3 x4 x5 x6 x7 x8 x9 x10
      have z0 := cell_blk t1 0
      have z1 := cell_blk t1 1
      have z2 := cell_blk t1 2
      have z3 := cell_blk t1 3
      have z4 := cell_blk t1 4
      have z5 := cell_blk t1 5
      have z6 := cell_blk t1 6
      have z7 := cell_blk t1 7
      have z8 := cell_blk t1 8
      have z9 := cell_blk t1 9
      have z10 := cell_blk t1 10
      simp at z0 z1 z2 z3 z4 z5 z6 z7 z8 z9 z10
      have Hown := Lib.hid hown
      have Ht1 := Lib.hid t1
      have Hbw := Lib.hid hbw
      have hlg : ¬ ((cells.length : Int) < (cells.length : Int)) := by omega
      clear hown t1 hbw hb hblk hj
      generalize hnl : (getRows L cells).length = nl at *
      go_wp2_with fail
      refine bodyPost_resp (g := w.heap.size + 1) (k := 1) (i := 0) (er := 0) (ep := 0) (rows := .slice oa nl oc) (t := 0) (l := 0) (o := 0) (f := 0) (c := 0) (n := 0) rfl rfl ?_ rfl ?_
      · with_reducible exact set11 Ht1.out _ _ _ _ _ _ _ _ _ _ _
      · have hbf := below11 (g := w.heap.size + 1) Hbw.out (by omega) (.int .i64 1) (.int .i64 0) (.int .i64 0) (.int .i64 0) (.slice oa nl oc) (.int .i64 0) (.int .i64 0) (.int .i64 0) (.int .i64 0) (.int .i64 0) (.int .i64 0)
        refine ⟨.slice oa nl oc, B, rfl, ?_, Hh.out.below hbf, Turn.of_below B hbf, fun g hg => ?_⟩
        · refine (Hown.out.chg (l := [w.heap.size + 1]) ?_ ?_).mono (by omega)
          · with_reducible exact chg11 _ _ _ _ _ _ _ _ _ _ _
          · intro g hg hm
            have := (Hown.out.ge hg).1
            rw [List.mem_singleton.1 hm] at this
            omega
        · refine Decidable.byContradiction fun hn => ?_
          have h1 := Hh.out.lt g hn
          have h2 := (Hown.out.ge hg).1
          omega

set_option maxRecDepth 100000 in
set_option maxHeartbeats 16000000 in
theorem read_getE {w : World} {B : MB} {S : Mst} (h : IsModel w B S) (s k i ep : Int) (qa : Option Addr) (cells : List Cell) (qc : Nat) (f t : Cell) (lim : Int) (hqs : Sl 3 cellL w qa cells) (hcl : cells.length ≤ 100000000) (hk3 : k ≠ 3) (hep : ep ≠ 0) (hv : S.holds s ep = true) (L : List Rw) (hL : S.seals ep = some L) :
    Calls Try.prog 35 #[.pointer (some ⟨B.mp, 0, none⟩), .int .i64 s, .agg #[.int .i64 k, .int .i64 i, .int .i64 ep, .slice qa cells.length qc, .int .i64 f.v, .string f.k, .int .i64 f.s, .int .i64 t.v, .string t.k, .int .i64 t.s, .int .i64 lim]] w
      (Says w B (S, 0, ⟨1, 0, 0, 0, getRows L cells, 0, 0, 0, 0, 0, 0⟩)) := by
  have hb1 : Below w.heap.size w ((w.alloc (.cells #[.int .i64 k, .int .i64 i, .int .i64 ep, .slice qa cells.length qc, .int .i64 f.v, .string f.k, .int .i64 f.s, .int .i64 t.v, .string t.k, .int .i64 t.s, .int .i64 lim] 48)).alloc respO) := ((Below.refl _ _).alloc (Nat.le_refl _) _).alloc (by simp) _
  have hf1 : ((w.alloc (.cells #[.int .i64 k, .int .i64 i, .int .i64 ep, .slice qa cells.length qc, .int .i64 f.v, .string f.k, .int .i64 f.s, .int .i64 t.v, .string t.k, .int .i64 t.s, .int .i64 lim] 48)).alloc respO).heap[w.heap.size + 1]? = some respO := blk_at (by simp)
  have hq1 : ((w.alloc (.cells #[.int .i64 k, .int .i64 i, .int .i64 ep, .slice qa cells.length qc, .int .i64 f.v, .string f.k, .int .i64 f.s, .int .i64 t.v, .string t.k, .int .i64 t.s, .int .i64 lim] 48)).alloc respO).heap[w.heap.size]? = some (.cells #[.int .i64 k, .int .i64 i, .int .i64 ep, .slice qa cells.length qc, .int .i64 f.v, .string f.k, .int .i64 f.s, .int .i64 t.v, .string t.k, .int .i64 t.s, .int .i64 lim] 48 (0, 0)) := (blk_old (by simp)).trans (blk_at rfl)
  have hM1 := h.below hb1
  have hz1 : ((w.alloc (.cells #[.int .i64 k, .int .i64 i, .int .i64 ep, .slice qa cells.length qc, .int .i64 f.v, .string f.k, .int .i64 f.s, .int .i64 t.v, .string t.k, .int .i64 t.s, .int .i64 lim] 48)).alloc respO).heap.size = w.heap.size + 2 := by simp
  have c12 := hM1.parts.pinS.2
  have hk3b : (k != 3) = true := by simp [hk3]
  have hepb : (ep != 0) = true := by simp [hep]
  have hsv : sealV B S ep = .map (some (B.sk ep)) := by unfold sealV; rw [hL]; rfl
  have hmapE : ∀ W, Below w.heap.size w W → HasMap W (B.sk ep) L := fun W hW => by
    obtain ⟨_, m, _, h1, _⟩ := (h.below hW).seals
    exact (h1 ep L hL).2.1
  have kA : ∀ W, Below w.heap.size w W → W.heap[w.heap.size]? = some (.cells #[.int .i64 k, .int .i64 i, .int .i64 ep, .slice qa cells.length qc, .int .i64 f.v, .string f.k, .int .i64 f.s, .int .i64 t.v, .string t.k, .int .i64 t.s, .int .i64 lim] 48 (0, 0)) → ∀ W', Below W.heap.size W W' → ReadA B.mp B.bh B.bs w.heap.size s ep (B.hk s) true (.map (some (B.sk ep))) W W' := by
    intro W hW hq W' hW'
    have hm := h.below (hW.trans (hW'.mono hW.size))
    have hq' := (hW'.block _ (lt_of_block hq)).trans hq
    have h1 := hm.holds.has s ep
    rw [hv] at h1
    exact ⟨hW', hm.parts.cell17, hm.parts.cell16, cell_blk hq' 2, hm.holds.get s, h1, by have := hm.seals.get ep false; rw [hsv] at this; simpa using this⟩
  have Hh := Lib.hid h
  have Hb1 := Lib.hid hb1
  have Hf1 := Lib.hid hf1
  have Hq1 := Lib.hid hq1
  have Hmap := Lib.hid hmapE
  have Hk := Lib.hid kA
  clear h hb1 hf1 hq1 hM1 hv hL hsv hmapE kA hep hk3
  generalize B.hk s = hb at *
  generalize B.sk ep = bL at *
  go_enter Try.func35, Try.ntmps35
  go_wp2_with fail
  generalize hW1 : World.alloc _ respO = W1
  have e1 : (w.alloc (.cells #[.int .i64 k, .int .i64 i, .int .i64 ep, .slice qa cells.length qc, .int .i64 f.v, .string f.k, .int .i64 f.s, .int .i64 t.v, .string t.k, .int .i64 t.s, .int .i64 lim] 48)).alloc respO = W1 := hW1
  rw [e1] at Hb1 Hf1 Hq1 hz1
  have kD := Hk.out W1 Hb1.out Hq1.out _ (Below.refl _ _).drew
  clear c12 hW1 e1
  go_region_held3 (fun W => ReadA B.mp B.bh B.bs w.heap.size s ep hb true (.map (some bL)) W1 W) (first | exact kD | assumption) (fail)
  have kE := Hk.out W1 Hb1.out Hq1.out _ (Below.refl _ _).drew.drew
  go_wp2_with fail
  go_region_held3 (fun W => ReadA B.mp B.bh B.bs w.heap.size s ep hb true (.map (some bL)) W1 W) (first | exact kE | assumption) (fail)
  have y0 := cell_blk Hq1.out 0
  have y3 := cell_blk Hq1.out 3
  simp at y0 y3
  have lg : w.heap.size < W1.heap.size := by omega
  go_wp2_with fail
  generalize hW3 : (World.alloc W1 (resp1 (.slice none 0 0))).drew.drew = w3
  have hb3 : Below w.heap.size w w3 := by rw [← hW3]; exact (Hb1.out.alloc Hb1.out.size _).drew.drew
  have s1 : w3.heap[w.heap.size + 1]? = some respO := by rw [← hW3]; exact drew_blk (drew_blk ((blk_old (by omega)).trans Hf1.out))
  have s2 : w3.heap[w.heap.size + 2]? = some (resp1 (.slice none 0 0)) := by rw [← hW3]; exact drew_blk (drew_blk (blk_at (by omega)))
  clear hW3
  have l3 := lt_of_block s2
  have Hb3 := Lib.hid hb3
  have Hs1 := Lib.hid s1
  have Hs2 := Lib.hid s2
  clear hb3 s1 s2 y0 y3 kD kE lg hz1
  go_loopg [47] cells.length (fun g i wr => ∃ (j : Nat) (v : Value), j + g = cells.length ∧ i = .int .i64 j ∧ Own 53 7 rowL w3.heap.size wr v (getRows L (cells.take j)) ∧ wr.heap[w.heap.size + 2]? = some (resp1 v) ∧ Below (w.heap.size + 2) w3 wr)
  case atStart => exact ⟨0, .slice none 0 0, by omega, rfl, Own.nil _ _ _ _ _, Hs2.out, Below.refl _ _⟩
  case round =>
    obtain ⟨j, v, hj, rfl, hown, hblk, hb⟩ := hrel
    have hbw : Below w.heap.size w wr := Hb3.out.trans (hb.mono (by omega))
    have hz := hb.size
    have Hj := Lib.hid hj
    by_cases hlt : j < cells.length
    · obtain ⟨cb, co, hqe, hcb, x0, x1, x2⟩ := hqs.at3 hlt rfl
      have d0 := (hbw.cell (p := ⟨cb, _, none⟩) hcb).trans x0
      have d1 := (hbw.cell (p := ⟨cb, _, none⟩) hcb).trans x1
      have d2 := (hbw.cell (p := ⟨cb, _, none⟩) hcb).trans x2
      have hsn := getRows_snoc L cells hlt
      have hln := getRows_len L cells (Nat.le_of_lt hlt)
      have hgt : ∀ W, Below w.heap.size w W → (Instr.lookup 83 (.map (some bL)) (.agg #[.int .i64 cells[j].v, .string cells[j].k, .int .i64 cells[j].s]) false).run Try.prog W = .ok (.agg #[.int .i64 (getA L cells[j]).c, .int .i64 (getA L cells[j]).s, .int .i64 (getA L cells[j]).mn, .int .i64 (getA L cells[j]).mx]) W := fun W hW => (Hmap.out W hW).get cells[j].v cells[j].k cells[j].s false
      generalize hce : cells[j] = ce at *
      generalize hag : getA L ce = ag at *
      obtain ⟨cv, ck, cs⟩ := ce
      obtain ⟨ac, au, an, ax⟩ := ag
      dsimp only at *
      obtain ⟨oa, oc, rfl, _⟩ := hown.sl fun _ => rfl
      -- the worlds of the region
      have hb4 : Below wr.heap.size wr (wr.alloc (.cells #[.int .i64 cv, .string ck, .int .i64 cs] 46)) := (Below.refl _ _).alloc (Nat.le_refl _) _
      have hc4 : (wr.alloc (.cells #[.int .i64 cv, .string ck, .int .i64 cs] 46)).heap[wr.heap.size]? = some (.cells #[.int .i64 cv, .string ck, .int .i64 cs] 46 (0, 0)) := blk_at rfl
      have hz4 : (wr.alloc (.cells #[.int .i64 cv, .string ck, .int .i64 cs] 46)).heap.size = wr.heap.size + 1 := by simp
      have hb5 : Below (wr.heap.size + 1) (wr.alloc (.cells #[.int .i64 cv, .string ck, .int .i64 cs] 46)) ((wr.alloc (.cells #[.int .i64 cv, .string ck, .int .i64 cs] 46)).drew.alloc (.cells #[.int .i64 cv, .string ck, .int .i64 cs, .int .i64 ac, .int .i64 au, .int .i64 an, .int .i64 ax] 53)) := (Below.refl _ _).drew.alloc (by show wr.heap.size + 1 ≤ (wr.alloc _).heap.size; omega) _
      have hg5 : ((wr.alloc (.cells #[.int .i64 cv, .string ck, .int .i64 cs] 46)).drew.alloc (.cells #[.int .i64 cv, .string ck, .int .i64 cs, .int .i64 ac, .int .i64 au, .int .i64 an, .int .i64 ax] 53)).heap[wr.heap.size + 1]? = some (.cells #[.int .i64 cv, .string ck, .int .i64 cs, .int .i64 ac, .int .i64 au, .int .i64 an, .int .i64 ax] 53 (0, 0)) := blk_at (by show wr.heap.size + 1 = (wr.alloc _).heap.size; omega)
      have hz5 : ((wr.alloc (.cells #[.int .i64 cv, .string ck, .int .i64 cs] 46)).drew.alloc (.cells #[.int .i64 cv, .string ck, .int .i64 cs, .int .i64 ac, .int .i64 au, .int .i64 an, .int .i64 ax] 53)).heap.size = wr.heap.size + 2 := by simp
      have hown5 := (hown.below hb4).below (hb5.mono (by omega))
      obtain ⟨v', w6, hrun, hown6, hv6, hg6⟩ := app_row _ w3.heap.size _ _ hown5 (by rw [hz5]; omega) (wr.heap.size + 1) ⟨⟨cv, ck, cs⟩, ⟨ac, au, an, ax⟩⟩ hg5 (by rw [hln]; omega)
      obtain ⟨oa', oc', rfl, _⟩ := hown6.sl fun _ => rfl
      have hoge : ∀ g, (Value.slice oa (getRows L (cells.take j)).length oc).ownBlock = some g → w3.heap.size ≤ g ∧ g < wr.heap.size := fun g hg => hown.ge hg
      have hk6 : ∀ g, g < w3.heap.size ∨ wr.heap.size ≤ g → g < wr.heap.size + 2 → w6.heap[g]? = ((wr.alloc (.cells #[.int .i64 cv, .string ck, .int .i64 cs] 46)).drew.alloc (.cells #[.int .i64 cv, .string ck, .int .i64 cs, .int .i64 ac, .int .i64 au, .int .i64 an, .int .i64 ax] 53)).heap[g]? := fun g h1 h2 => hg6.block g (by rw [hz5]; exact h2) (fun e => by have := hoge g e.symm; omega)
      have hc5 := (hb5.block wr.heap.size (by omega)).trans hc4
      have hc6 := (hk6 wr.heap.size (Or.inr (Nat.le_refl _)) (by omega)).trans hc5
      have hbw4 : Below w.heap.size w (wr.alloc (.cells #[.int .i64 cv, .string ck, .int .i64 cs] 46)) := hbw.trans (hb4.mono hbw.size)
      have hbw5 := hbw4.trans (hb5.mono (by have := hbw.size; omega))
      have hb26 : Below (w.heap.size + 2) wr w6 := ⟨hg6.os.trans (hb5.os.trans hb4.os), hg6.tape.trans (hb5.tape.trans hb4.tape), hg6.output.trans (hb5.output.trans hb4.output), by have := hg6.size; omega, fun g hg => (hk6 g (Or.inl (by omega)) (by omega)).trans ((hb5.block g (by omega)).trans (hb4.block g (by omega)))⟩
      have hbw6 : Below w.heap.size w w6 := hbw.trans (hb26.mono (by omega))
      have hr6 : w6.heap[w.heap.size + 2]? = some (resp1 (.slice oa (getRows L (cells.take j)).length oc)) := (hk6 _ (Or.inl (by omega)) (by omega)).trans ((hb5.block _ (by omega)).trans ((hb4.block _ (by omega)).trans hblk))
      have hr4 : (wr.alloc (.cells #[.int .i64 cv, .string ck, .int .i64 cs] 46)).heap[w.heap.size + 2]? = some (resp1 (.slice oa (getRows L (cells.take j)).length oc)) := (hb4.block _ (by omega)).trans hblk
      have hr5 := (hb5.block _ (by omega)).trans hr4
      have kS0 : GetS wr.heap.size bL cv ck cs ac au an ax (wr.alloc (.cells #[.int .i64 cv, .string ck, .int .i64 cs] 46)).drew := ⟨cell_blk hc4 0, cell_blk hc4 1, cell_blk hc4 2, hgt _ hbw4.drew⟩
      have kS1 : GetS wr.heap.size bL cv ck cs ac au an ax ((wr.alloc (.cells #[.int .i64 cv, .string ck, .int .i64 cs] 46)).drew.alloc (.cells #[.int .i64 cv, .string ck, .int .i64 cs, .int .i64 ac, .int .i64 au, .int .i64 an, .int .i64 ax] 53)) := ⟨cell_blk hc5 0, cell_blk hc5 1, cell_blk hc5 2, hgt _ hbw5⟩
      have kS2 : GetS wr.heap.size bL cv ck cs ac au an ax w6 := ⟨cell_blk hc6 0, cell_blk hc6 1, cell_blk hc6 2, hgt _ hbw6⟩
      have kS3 : GetS wr.heap.size bL cv ck cs ac au an ax (w6.setCell ⟨w.heap.size + 2, 4, none⟩ (.slice oa' (getRows L (cells.take j) ++ [(⟨⟨cv, ck, cs⟩, ⟨ac, au, an, ax⟩⟩ : Rw)]).length oc')) := by
        have hc7 : (w6.setCell ⟨w.heap.size + 2, 4, none⟩ (.slice oa' (getRows L (cells.take j) ++ [(⟨⟨cv, ck, cs⟩, ⟨ac, au, an, ax⟩⟩ : Rw)]).length oc')).heap[wr.heap.size]? = _ := blk_set hc6 (by omega)
        exact ⟨cell_blk hc7 0, cell_blk hc7 1, cell_blk hc7 2, hgt _ (hbw6.setCell (p := ⟨w.heap.size + 2, 4, none⟩) (by show w.heap.size ≤ w.heap.size + 2; omega) _)⟩
      have rf6 := frozen_blk hr6
      have p4 : (wr.alloc (.cells #[.int .i64 cv, .string ck, .int .i64 cs] 46)).drew.cell? ⟨w.heap.size + 2, 4, none⟩ = some (.slice oa (getRows L (cells.take j)).length oc) := cell_blk (drew_blk hr4) 4
      have p5 : ((wr.alloc (.cells #[.int .i64 cv, .string ck, .int .i64 cs] 46)).drew.alloc (.cells #[.int .i64 cv, .string ck, .int .i64 cs, .int .i64 ac, .int .i64 au, .int .i64 an, .int .i64 ax] 53)).cell? ⟨w.heap.size + 2, 4, none⟩ = some (.slice oa (getRows L (cells.take j)).length oc) := cell_blk hr5 4
      have p5b : ((wr.alloc (.cells #[.int .i64 cv, .string ck, .int .i64 cs] 46)).alloc (.cells #[.int .i64 cv, .string ck, .int .i64 cs, .int .i64 ac, .int .i64 au, .int .i64 an, .int .i64 ax] 53)).cell? ⟨w.heap.size + 2, 4, none⟩ = some (.slice oa (getRows L (cells.take j)).length oc) := p5
      have p6 : w6.cell? ⟨w.heap.size + 2, 4, none⟩ = some (.slice oa (getRows L (cells.take j)).length oc) := cell_blk hr6 4
      have hfin : ∃ (j' : Nat) (v : Value), j' + (gk - 1) = cells.length ∧ Value.int .i64 ((j : Int) + 1) = .int .i64 j' ∧ Own 53 7 rowL w3.heap.size (w6.setCell ⟨w.heap.size + 2, 4, none⟩ (.slice oa' (getRows L (cells.take j) ++ [(⟨⟨cv, ck, cs⟩, ⟨ac, au, an, ax⟩⟩ : Rw)]).length oc')) v (getRows L (cells.take j')) ∧ (w6.setCell ⟨w.heap.size + 2, 4, none⟩ (.slice oa' (getRows L (cells.take j) ++ [(⟨⟨cv, ck, cs⟩, ⟨ac, au, an, ax⟩⟩ : Rw)]).length oc')).heap[w.heap.size + 2]? = some (resp1 v) ∧ Below (w.heap.size + 2) w3 (w6.setCell ⟨w.heap.size + 2, 4, none⟩ (.slice oa' (getRows L (cells.take j) ++ [(⟨⟨cv, ck, cs⟩, ⟨ac, au, an, ax⟩⟩ : Rw)]).length oc')) := by
        refine ⟨j + 1, .slice oa' (getRows L (cells.take j) ++ [(⟨⟨cv, ck, cs⟩, ⟨ac, au, an, ax⟩⟩ : Rw)]).length oc', by omega, by simp, ?_, set_obj hr6 4 _, (hb.trans hb26).setCell (p := ⟨w.heap.size + 2, 4, none⟩) (Nat.le_refl _) _⟩
        rw [hsn]
        refine hown6.keep fun g hg _ => Below.heap_setCell _ _ _ _ ?_
        have := (hown6.ge hg).1
        show g ≠ w.heap.size + 2
        omega
      have Hfin := Lib.hid hfin
      have Hrun := Lib.hid hrun
      have hrun := Hrun.out
      generalize hn1 : (getRows L (cells.take j) ++ [(⟨⟨cv, ck, cs⟩, ⟨ac, au, an, ax⟩⟩ : Rw)]).length = n1 at *
      generalize hn2 : (getRows L (cells.take j)).length = n2 at *
      have hjl : (j : Int) < (cells.length : Int) := by omega
      have hqe' := hqe
      have r0 := (Hb3.out.trans (hb.mono (by omega)) : Below w.heap.size w wr)
      clear hown hblk hb hbw hb4 hb5 hc4 hc5 hc6 hg5 hown5 hown6 hv6 hg6 hoge hk6 hbw4 hbw5 hbw6 hb26 hr4 hr5 hr6 hgt hfin hce hag hsn hln hn1 hn2 hz4 hz5 x0 x1 x2 r0 hj hqe'
      subst hqe
      go_wp2_with fail
      refine wp_region_held_drew (S := fun W => GetS wr.heap.size bL cv ck cs ac au an ax W) (by kernel_rfl) kS0 (fun hHeld => ?_)
      refine wpAnyH_takeD (i := 0) (oi := _) (d := 51) (v := ?va0) rfl (by kernel_rfl) (by kernel_rfl) (by kernel_rfl) (by kernel_rfl) (fun _ _ _ h => h) (Or.inl ⟨by kernel_rfl, ?ya0⟩) (by assumption) ?ra0
      case ya0 =>
        intro w' hSw
        obtain ⟨sA, sB, sC, sD⟩ := hSw
        go_simp
        try with_reducible rfl
      try simp only [Act.put, List.setIfInBounds_toArray, List.set_cons_zero, List.set_cons_succ]
      refine wpAnyH_takeD (i := 2) (oi := _) (d := 53) (v := ?va2) rfl (by kernel_rfl) (by kernel_rfl) (by kernel_rfl) (by kernel_rfl) (fun _ _ _ h => h) (Or.inl ⟨by kernel_rfl, ?ya2⟩) (by assumption) ?ra2
      case ya2 =>
        intro w' hSw
        obtain ⟨sA, sB, sC, sD⟩ := hSw
        go_simp
        try with_reducible rfl
      try simp only [Act.put, List.setIfInBounds_toArray, List.set_cons_zero, List.set_cons_succ]
      refine wpAnyH_takeD (i := 3) (oi := _) (d := 54) (v := ?va3) rfl (by kernel_rfl) (by kernel_rfl) (by kernel_rfl) (by kernel_rfl) (fun _ _ _ h => h) (Or.inl ⟨by kernel_rfl, ?ya3⟩) (by assumption) ?ra3
      case ya3 =>
        intro w' hSw
        obtain ⟨sA, sB, sC, sD⟩ := hSw
        go_simp
        try with_reducible rfl
      try simp only [Act.put, List.setIfInBounds_toArray, List.set_cons_zero, List.set_cons_succ]
      refine wpAnyH_takeD (i := 4) (oi := _) (d := 55) (v := ?va4) rfl (by kernel_rfl) (by kernel_rfl) (by kernel_rfl) (by kernel_rfl) (fun _ _ _ h => h) (Or.inl ⟨by kernel_rfl, ?ya4⟩) (by assumption) ?ra4
      case ya4 =>
        intro w' hSw
        obtain ⟨sA, sB, sC, sD⟩ := hSw
        go_simp
        try with_reducible rfl
      try simp only [Act.put, List.setIfInBounds_toArray, List.set_cons_zero, List.set_cons_succ]
      refine wpAnyH_takeD (i := 5) (oi := _) (d := 56) (v := ?va5) rfl (by kernel_rfl) (by kernel_rfl) (by kernel_rfl) (by kernel_rfl) (fun _ _ _ h => h) (Or.inl ⟨by kernel_rfl, ?ya5⟩) (by assumption) ?ra5
      case ya5 =>
        intro w' hSw
        obtain ⟨sA, sB, sC, sD⟩ := hSw
        go_simp
        try with_reducible rfl
      try simp only [Act.put, List.setIfInBounds_toArray, List.set_cons_zero, List.set_cons_succ]
      refine wpAnyH_takeD (i := 6) (oi := _) (d := 57) (v := ?va6) rfl (by kernel_rfl) (by kernel_rfl) (by kernel_rfl) (by kernel_rfl) (fun _ _ _ h => h) (Or.inl ⟨by kernel_rfl, ?ya6⟩) (by assumption) ?ra6
      case ya6 =>
        intro w' hSw
        obtain ⟨sA, sB, sC, sD⟩ := hSw
        go_simp
        try with_reducible rfl
      try simp only [Act.put, List.setIfInBounds_toArray, List.set_cons_zero, List.set_cons_succ]
      refine wpAnyH_ready (rs := [1, 7]) (by kernel_rfl) (by simp) ?_
      refine AllReadyH.cons (o := _) rfl (fun K hK => ?_) (AllReadyH.cons (o := _) rfl (fun K hK => ?_) AllReadyH.nil)
      · go_simp
        refine hK.out _ _ kS0 (fun _ => ?_)
        clear hK K
        try simp only [Act.put, List.setIfInBounds_toArray, List.set_cons_zero, List.set_cons_succ]
        refine wpAnyH_ready (rs := [7]) (by kernel_rfl) (by simp) ?_
        refine AllReadyH.cons (o := _) rfl (fun K hK => ?_) AllReadyH.nil
        go_simp
        refine hK.out _ _ kS1 (fun _ => ?_)
        clear hK K
        try simp only [Act.put, List.setIfInBounds_toArray, List.set_cons_zero, List.set_cons_succ]
        refine wpAnyH_ready (rs := [8]) (by kernel_rfl) (by simp) ?_
        refine AllReadyH.cons (o := _) rfl (fun K hK => ?_) AllReadyH.nil
        refine step_append_run (by rfl) _ _ _ (by rfl) (by rfl) (by rfl) hrun ?_
        refine hK.out _ _ kS2 (fun _ => ?_)
        clear hK K
        try simp only [Act.put, List.setIfInBounds_toArray, List.set_cons_zero, List.set_cons_succ]
        refine wpAnyH_takeD (i := 9) (oi := _) (d := 60) (v := ?vra9) rfl (by kernel_rfl) (by kernel_rfl) (by kernel_rfl) (by kernel_rfl) (fun _ _ _ h => h) (Or.inl ⟨by kernel_rfl, ?yra9⟩) (by assumption) ?rra9
        case yra9 =>
          intro w' hSw
          obtain ⟨sA, sB, sC, sD⟩ := hSw
          go_simp
          try with_reducible rfl
        try simp only [Act.put, List.setIfInBounds_toArray, List.set_cons_zero, List.set_cons_succ]
        refine wpAnyH_ready (rs := [10]) (by kernel_rfl) (by simp) ?_
        refine AllReadyH.cons (o := _) rfl (fun K hK => ?_) AllReadyH.nil
        go_simp
        refine hK.out _ _ kS3 (fun _ => ?_)
        clear hK K
        try simp only [Act.put, List.setIfInBounds_toArray, List.set_cons_zero, List.set_cons_succ]
        refine wpAnyH_done (by kernel_rfl) ?_ _
        go_wp2_with fail
        go_roundg (gk - 1)
        case measure => have := Hj.out; omega
        case rel => exact Hfin.out
      · go_simp
        refine hK.out _ _ kS1 (fun _ => ?_)
        clear hK K
        try simp only [Act.put, List.setIfInBounds_toArray, List.set_cons_zero, List.set_cons_succ]
        refine wpAnyH_ready (rs := [1]) (by kernel_rfl) (by simp) ?_
        refine AllReadyH.cons (o := _) rfl (fun K hK => ?_) AllReadyH.nil
        go_simp
        refine hK.out _ _ kS1 (fun _ => ?_)
        clear hK K
        try simp only [Act.put, List.setIfInBounds_toArray, List.set_cons_zero, List.set_cons_succ]
        refine wpAnyH_ready (rs := [8]) (by kernel_rfl) (by simp) ?_
        refine AllReadyH.cons (o := _) rfl (fun K hK => ?_) AllReadyH.nil
        refine step_append_run (by rfl) _ _ _ (by rfl) (by rfl) (by rfl) hrun ?_
        refine hK.out _ _ kS2 (fun _ => ?_)
        clear hK K
        try simp only [Act.put, List.setIfInBounds_toArray, List.set_cons_zero, List.set_cons_succ]
        refine wpAnyH_takeD (i := 9) (oi := _) (d := 60) (v := ?vrb9) rfl (by kernel_rfl) (by kernel_rfl) (by kernel_rfl) (by kernel_rfl) (fun _ _ _ h => h) (Or.inl ⟨by kernel_rfl, ?yrb9⟩) (by assumption) ?rrb9
        case yrb9 =>
          intro w' hSw
          obtain ⟨sA, sB, sC, sD⟩ := hSw
          go_simp
          try with_reducible rfl
        try simp only [Act.put, List.setIfInBounds_toArray, List.set_cons_zero, List.set_cons_succ]
        refine wpAnyH_ready (rs := [10]) (by kernel_rfl) (by simp) ?_
        refine AllReadyH.cons (o := _) rfl (fun K hK => ?_) AllReadyH.nil
        go_simp
        refine hK.out _ _ kS3 (fun _ => ?_)
        clear hK K
        try simp only [Act.put, List.setIfInBounds_toArray, List.set_cons_zero, List.set_cons_succ]
        refine wpAnyH_done (by kernel_rfl) ?_ _
        go_wp2_with fail
        go_roundg (gk - 1)
        case measure => have := Hj.out; omega
        case rel => exact Hfin.out
    · have hjn : j = cells.length := by omega
      subst hjn
      rw [List.take_length] at hown
      obtain ⟨oa, oc, rfl, _⟩ := hown.sl fun _ => rfl
      have t1 := (hb.block (w.heap.size + 1) (by omega)).trans Hs1.out
      have rf2 := frozen_blk hblk
      have rf1 := frozen_blk t1
      have x0 := cell_blk hblk 0
      have x1 := cell_blk hblk 1
      have x2 := cell_blk hblk 2
      have x3 := cell_blk hblk 3
      have x4 := cell_blk hblk 4
      have x5 := cell_blk hblk 5
      have x6 := cell_blk hblk 6
      have x7 := cell_blk hblk 7
      have x8 := cell_blk hblk 8
      have x9 := cell_blk hblk 9
      have x10 := cell_blk hblk 10
      simp at x0 x1 x2 x3 x4 x5 x6 x7 x8 x9 x10
      have z0 := cell_blk t1 0
      have z1 := cell_blk t1 1
      have z2 := cell_blk t1 2
      have z3 := cell_blk t1 3
      have z4 := cell_blk t1 4
      have z5 := cell_blk t1 5
      have z6 := cell_blk t1 6
      have z7 := cell_blk t1 7
      have z8 := cell_blk t1 8
      have z9 := cell_blk t1 9
      have z10 := cell_blk t1 10
      simp at z0 z1 z2 z3 z4 z5 z6 z7 z8 z9 z10
      have Hown := Lib.hid hown
      have Ht1 := Lib.hid t1
      have Hbw := Lib.hid hbw
      have hlg : ¬ ((cells.length : Int) < (cells.length : Int)) := by omega
      clear hown t1 hbw hb hblk hj
      generalize hnl : (getRows L cells).length = nl at *
      go_wp2_with fail
      refine bodyPost_resp (g := w.heap.size + 1) (k := 1) (i := 0) (er := 0) (ep := 0) (rows := .slice oa nl oc) (t := 0) (l := 0) (o := 0) (f := 0) (c := 0) (n := 0) rfl rfl ?_ rfl ?_
      · with_reducible exact set11 Ht1.out _ _ _ _ _ _ _ _ _ _ _
      · have hbf := below11 (g := w.heap.size + 1) Hbw.out (by omega) (.int .i64 1) (.int .i64 0) (.int .i64 0) (.int .i64 0) (.slice oa nl oc) (.int .i64 0) (.int .i64 0) (.int .i64 0) (.int .i64 0) (.int .i64 0) (.int .i64 0)
        refine ⟨.slice oa nl oc, B, rfl, ?_, Hh.out.below hbf, Turn.of_below B hbf, fun g hg => ?_⟩
        · refine (Hown.out.chg (l := [w.heap.size + 1]) ?_ ?_).mono (by omega)
          · with_reducible exact chg11 _ _ _ _ _ _ _ _ _ _ _
          · intro g hg hm
            have := (Hown.out.ge hg).1
            rw [List.mem_singleton.1 hm] at this
            omega
        · refine Decidable.byContradiction fun hn => ?_
          have h1 := Hh.out.lt g hn
          have h2 := (Hown.out.ge hg).1
          omega

end Go.Proofs.Ytaicecnfodhlcaa
/- Ask, whole. -/
set_option linter.unusedVariables false
set_option linter.unusedSimpArgs false
namespace Go.Proofs.Ytaicecnfodhlcaa
open Go.RowKit Go.Deep

theorem readGet_any {w : World} {B : MB} {S : Mst} (h : IsModel w B S) (s k i ep : Int) (qa : Option Addr) (cells : List Cell) (qc : Nat) (f t : Cell) (lim : Int) (hqs : Sl 3 cellL w qa cells) (hcl : cells.length ≤ 100000000) (hk3 : k ≠ 3) :
    Calls Try.prog 35 #[.pointer (some ⟨B.mp, 0, none⟩), .int .i64 s, .agg (Rq.at ⟨k, i, ep, cells, f, t, lim⟩ qa qc)] w (Says w B (S.read s ⟨k, i, ep, cells, f, t, lim⟩)) := by
  by_cases hep : ep = 0
  · subst hep
    have e : S.read s ⟨k, i, 0, cells, f, t, lim⟩ = (S, 0, ⟨1, 0, 0, 0, getRows S.L cells, 0, 0, 0, 0, 0, 0⟩) := by simp [Mst.read, Mst.readL, hk3]
    rw [e]
    exact read_get0 h s k i 0 qa cells qc f t lim hqs hcl hk3
  · cases hv : S.holds s ep with
    | false =>
      have e : S.read s ⟨k, i, ep, cells, f, t, lim⟩ = (S, 33, Rsp.no) := by simp [Mst.read, Mst.readL, hep, hv]
      rw [e]
      exact read_none h s k i ep qa cells.length qc f t lim hep hv
    | true =>
      obtain ⟨L, hL⟩ := Option.isSome_iff_exists.1 ((h.inv.slk ep).2 ⟨s, hv⟩)
      have e : S.read s ⟨k, i, ep, cells, f, t, lim⟩ = (S, 0, ⟨1, 0, 0, 0, getRows L cells, 0, 0, 0, 0, 0, 0⟩) := by simp [Mst.read, Mst.readL, hep, hv, hL, hk3]
      rw [e]
      exact read_getE h s k i ep qa cells qc f t lim hqs hcl hk3 hep hv L hL
/-- Ask, whatever it is asked. -/
theorem ask_any {w : World} {B : MB} {S : Mst} (h : IsModel w B S) (s : Int) (q : Rq) (qa : Option Addr) (qc : Nat) (r : Int) (hq : Sl 3 cellL w qa q.cells) (hl : q.cells.length ≤ 100000000)
    (hmax : S.L.length ≤ 100000000) (hmaxE : ∀ L, S.seals q.ep = some L → L.length ≤ 100000000) :
    Calls Try.prog 12 #[.pointer (some ⟨B.mp, 0, none⟩), .int .i64 s, .agg (q.at qa qc), .int .i64 r] w (Says w B (S.ask s q r)) := by
  refine ask_over h s q qa qc r hq (by omega) fun hs1 hs2 hc hr => ?_
  by_cases hk : q.k ≠ 1 ∧ q.k ≠ 2
  · exact ask_most h s q qa qc hq (by omega) hk hs1 hs2 hc hmax hmaxE
  · have hchk := fun W (hW : Below w.heap.size w W) => chkRq_any q qa qc W (hq.below hW) (by omega)
    rw [hc] at hchk
    obtain ⟨k, i, ep, cells, f, t, lim⟩ := q
    dsimp only at hk
    by_cases h1 : k = 1
    · subst h1
      exact ask_1 h s i ep qa cells.length qc f.v f.k f.s t.v t.k t.s lim hs1 hs2 (S.read s ⟨1, i, ep, cells, f, t, lim⟩) hchk
        (fun W hW hM b0 b1 b2 => clos2_any hM w.heap.size (w.heap.size + 1) (w.heap.size + 1 + 1) s 1 i ep qa cells.length qc f.v f.k f.s t.v t.k t.s lim _ b0 b1 b2 (fun W2 hW2 => readGet_any (hM.below hW2) s 1 i ep qa cells qc f t lim ((hq.below hW).below hW2) hl (by decide)))
    · have h2 : k = 2 := by omega
      subst h2
      exact ask_2 h s i ep qa cells.length qc f.v f.k f.s t.v t.k t.s lim hs1 hs2 (S.read s ⟨2, i, ep, cells, f, t, lim⟩) hchk
        (fun W hW hM b0 b1 b2 => clos3_any hM w.heap.size (w.heap.size + 1) (w.heap.size + 1 + 1) s 2 i ep qa cells.length qc f.v f.k f.s t.v t.k t.s lim _ b0 b1 b2 (fun W2 hW2 => readGet_any (hM.below hW2) s 2 i ep qa cells qc f t lim ((hq.below hW).below hW2) hl (by decide)))
end Go.Proofs.Ytaicecnfodhlcaa
