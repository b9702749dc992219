/- slices.SortFunc at rows. -/
import Derived.Test.YtaicecnfodhlcaaMSmall
set_option linter.unusedVariables false
set_option linter.unusedSimpArgs false
namespace Go.Proofs.Ytaicecnfodhlcaa
open Go.RowKit Go.Shelf Go.Sort

def rcmp (x y : Rw) : Int := ccmp x.cell y.cell
theorem cells1_row : Cells1 rowL := fun x u hu => by simp at hu; rcases hu with rfl | rfl | rfl | rfl | rfl | rfl | rfl <;> rfl

set_option maxHeartbeats 2000000 in
theorem rowCmp_any (x y : Rw) (w : World) :
    Calls Try.prog 71 #[.agg (rowL x).toArray, .agg (rowL y).toArray] w fun e w' => e = .returned (.int .i64 (rcmp x y)) ∧ ∃ q os', w' = Sort.grow (w.drewN q) os' := by
  have hc := fun W => compare_any x.cell.v x.cell.k x.cell.s y.cell.v y.cell.k y.cell.s W
  rw [show ccmp ⟨x.cell.v, x.cell.k, x.cell.s⟩ ⟨y.cell.v, y.cell.k, y.cell.s⟩ = rcmp x y from rfl] at hc
  generalize rcmp x y = z at *
  obtain ⟨⟨x1, x2, x3⟩, ⟨x4, x5, x6, x7⟩⟩ := x
  obtain ⟨⟨y1, y2, y3⟩, ⟨y4, y5, y6, y7⟩⟩ := y
  dsimp only at *
  go_enter Try.func71, Try.ntmps71
  go_wp2_with fail
  refine (hc _).mono ?_
  rintro e w1 ⟨rfl, q, os, rfl⟩
  go_wp2_with fail
  go_ret
  refine ⟨rfl, q, #[.cells #[.int .i64 x1, .string x2, .int .i64 x3, .int .i64 x4, .int .i64 x5, .int .i64 x6, .int .i64 x7] 53, .cells #[.int .i64 y1, .string y2, .int .i64 y3, .int .i64 y4, .int .i64 y5, .int .i64 y6, .int .i64 y7] 53] ++ os, ?_⟩
  rw [Sort.alloc_eq_grow, Sort.alloc_eq_grow, Sort.grow_grow]
  show Sort.grow (Sort.grow (w.drewN q) _) os = _
  rw [Sort.grow_grow]
  rfl

theorem swo_row : SWO (ltOf rcmp) where
  irrefl x := swo_cell.irrefl x.cell
  trans x y z h1 h2 := swo_cell.trans x.cell y.cell z.cell h1 h2
  ntrans x y z h1 h2 := swo_cell.ntrans x.cell y.cell z.cell h1 h2

/-- Rows that rise are one list only. -/
theorem rise_eq {xs ys : List Rw} (hx : Rise (xs.map (·.cell))) (hy : Rise (ys.map (·.cell))) (h : xs.Perm ys) : xs = ys := by
  unfold Rise at hx hy
  rw [List.pairwise_map] at hx hy
  refine List.Perm.eq_of_pairwise (fun a b _ _ h1 h2 => ?_) hx hy h
  have := tot_cell.anti a.cell b.cell
  omega

set_option maxHeartbeats 1000000 in
theorem sortRows_any (g cap : Nat) (xs : List Rw) (w : World) (B : Nat) (ho : Own 53 7 rowL B w (.slice (some ⟨g, 0, none⟩) xs.length cap) xs) (hl : xs.length ≤ 1000000000) (hn : (xs.map (·.cell)).Nodup) :
    Calls Try.prog 70 #[.slice (some ⟨g, 0, none⟩) xs.length cap, .func (.func 71) #[] #[]] w fun e w' => e = .returned (.tuple #[]) ∧ ∃ ys, ys.Perm xs ∧ Rise (ys.map (·.cell)) ∧ Own 53 7 rowL B w' (.slice (some ⟨g, 0, none⟩) xs.length cap) ys ∧ Chg [g] w w' := by
  obtain ⟨hfl, hrow⟩ := ho
  rcases hrow with ⟨h, _⟩ | ⟨g', cap', cur, e, hB, hb, hcap, hmax, hcs, htake⟩
  · cases h
  cases e
  have hH : HoldsK rowL 7 w g 0 xs.toArray := by
    intro j hj
    simp at hj
    refine ⟨?_, by simp [World.frozen?, hb]⟩
    have hs : j < (flatK rowL 7 xs.toArray).size := by simpa using hj
    have e1 : (flatK rowL 7 xs.toArray).toList[j]? = (cur.toList.take (xs.length * 7))[j]? := by rw [flatK_eq (enc := rowL) (k := 7) (fun _ => rfl), htake]
    rw [List.getElem?_take, if_pos hj, Array.getElem?_toList, Array.getElem?_toList, Array.getElem?_eq_getElem hs] at e1
    rw [getElem!_pos (flatK rowL 7 xs.toArray) j hs]
    simp [World.cell?, hb, ← e1]
  have eg : ∀ args w, (callFunc 71 args).run Try.prog w = .ok (.enter 71 args) w := enters_of Try.func71 (by kernel_rfl) rfl
  have h := AnyQ.slices_SortFunc Try.sortRows 7 (fun w => by kernel_rfl) (fun w => by kernel_rfl) rowL (fun _ => rfl) (fun x v hv => cells1_row x v hv) rcmp swo_row 71 #[] g 0 cap xs.toArray w eg
    (fun _ _ _ _ x y => rowCmp_any x y _) hH (lt_of_block hb) (by simp; omega)
  change Calls Try.prog 70 _ _ _ at h
  rw [show xs.toArray.size = xs.length from by simp] at h
  refine h.mono fun e w' ⟨he, d', n, os, hp, hs, hw⟩ => ⟨he, d'.toList, ?_⟩
  obtain ⟨hp1, _, hp3⟩ := hp
  have hlen : d'.toList.length = xs.length := by simpa using hp1
  have hdl : d'.size = xs.length := by simpa using hlen
  have hperm : d'.toList.Perm xs := by
    have e1 : d'.extract 0 xs.length = d' := by rw [← hdl]; simp
    have e2 : xs.toArray.extract 0 xs.length = xs.toArray := by rw [show xs.length = xs.toArray.size from by simp]; simp
    rw [e1, e2] at hp3
    exact hp3
  have hrise : Rise (d'.toList.map (·.cell)) := by
    have hnd : (d'.toList.map (·.cell)).Nodup := (hperm.map _).nodup_iff.2 hn
    unfold Rise
    rw [List.pairwise_map, List.pairwise_iff_getElem]
    intro i j hi hj hij
    have h1 := hs i j (Nat.zero_le _) hij (by omega)
    have hi' : i < d'.size := by simpa using hi
    have hj' : j < d'.size := by simpa using hj
    rw [getElem!_pos d' i hi', getElem!_pos d' j hj'] at h1
    have h1' : ¬ ccmp d'[j].cell d'[i].cell < 0 := of_decide_eq_false h1
    simp only [Array.getElem_toList]
    have h2 := tot_cell.anti d'[i].cell d'[j].cell
    rcases Int.lt_trichotomy (ccmp d'[i].cell d'[j].cell) 0 with h3 | h3 | h3
    · exact h3
    · exfalso
      have h4 := tot_cell.eq _ _ h3
      have h5 := List.pairwise_iff_getElem.1 hnd i j (by simpa using hi) (by simpa using hj) hij
      apply h5
      simpa using h4
    · omega
  have hheap : w'.heap = w.heap.modify g (onCells (putCells id 0 (flatK rowL 7 d'))) ++ os := by
    rw [hw]; rfl
  have hg := lt_of_block hb
  have hbg : w'.heap[g]? = some (.cells (putCells id 0 (flatK rowL 7 d') cur) 53 (0, 0)) := by
    rw [hheap, Array.getElem?_append_left (by simpa using hg), Array.getElem?_modify, if_pos rfl, hb]
    rfl
  have hfk : (flatK rowL 7 d').toList = d'.toList.flatMap rowL := by
    have := flatK_eq (enc := rowL) (k := 7) (fun _ => rfl) d'.toList
    simpa using this
  have hfs : (flatK rowL 7 d').size = xs.length * 7 := by rw [← Array.length_toList, hfk, flat_length (enc := rowL) (sz := 7) (fun _ => rfl), hlen]
  refine ⟨hperm, hrise, ?_, ?_⟩
  · refine ⟨flat_length (enc := rowL) (sz := 7) (fun _ => rfl) _, .inr ⟨g, cap, _, by rw [hlen], hB, hbg, by omega, hmax, ?_, ?_⟩⟩
    · simp [putCells, hcs]
    · rw [hlen]
      apply List.ext_getElem?
      intro j
      rw [List.getElem?_take]
      by_cases hj : j < xs.length * 7
      · rw [if_pos hj, ← hfk]
        have hs2 : j < (flatK rowL 7 d').size := by rw [hfs]; exact hj
        rw [Array.getElem?_toList, Array.getElem?_toList, Array.getElem?_eq_getElem hs2]
        have hc : j < cur.size := by rw [hcs]; exact Nat.lt_of_lt_of_le hj (Nat.mul_le_mul_right _ hcap)
        rw [putCells, Array.getElem?_mapIdx, Array.getElem?_eq_getElem hc]
        simp only [Option.map_some, Nat.zero_le, true_and, Nat.zero_add, Nat.sub_zero, id]
        rw [if_pos hs2, getElem!_pos (flatK rowL 7 d') j hs2]
      · rw [if_neg hj, List.getElem?_eq_none (by rw [flat_length (enc := rowL) (sz := 7) (fun _ => rfl), hlen]; omega)]
  · refine ⟨by rw [hw]; rfl, by rw [hw]; rfl, by rw [hw]; rfl, by rw [hheap]; simp, fun k hk hn => ?_⟩
    rw [hheap, Array.getElem?_append_left (by simpa using hk), Array.getElem?_modify, if_neg (fun e => hn (by simp [e]))]
theorem sortRows_none (a : Option Addr) (cap : Nat) (fv : Value) (w : World) : Calls Try.prog 70 #[.slice a 0 cap, fv] w fun e w' => e = .returned (.tuple #[]) ∧ w' = w := by
  have h := AnyF.slices_SortFunc_none Try.sortRows a cap fv w
  exact h
end Go.Proofs.Ytaicecnfodhlcaa
