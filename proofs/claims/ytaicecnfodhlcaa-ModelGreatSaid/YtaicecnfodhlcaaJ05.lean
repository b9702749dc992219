/- A map of rows: looked up, copied into; sorted rows. -/
import Derived.Test.YtaicecnfodhlcaaJ04
set_option linter.unusedVariables false
set_option linter.unusedSimpArgs false
namespace Go.Proofs.Ytaicecnfodhlcaa
open Go.RowKit Go.Deep

/-- What a cell has; that it is there. -/
def getA (L : List Rw) (c : Cell) : Ag := ((L.find? fun r => r.cell = c).map (·.agg)).getD ⟨0, 0, 0, 0⟩
def hasC (L : List Rw) (c : Cell) : Bool := (L.find? fun r => r.cell = c).isSome
theorem hasC_iff {L : List Rw} {c : Cell} : hasC L c = true ↔ c ∈ L.map (·.cell) := by
  unfold hasC
  rw [List.find?_isSome]
  simp
theorem getA_mem {L : List Rw} (hn : (L.map (·.cell)).Nodup) {r : Rw} (h : r ∈ L) : getA L r.cell = r.agg := by
  unfold getA
  have hs : (L.find? fun x => x.cell = r.cell) = some r := by
    induction L with
    | nil => cases h
    | cons x t ih =>
      simp only [List.map_cons, List.nodup_cons] at hn
      rcases List.mem_cons.1 h with e | e
      · subst e; simp
      · have : x.cell ≠ r.cell := fun e2 => hn.1 (by rw [e2]; exact List.mem_map.2 ⟨r, e, rfl⟩)
        rw [List.find?_cons_of_neg (by simpa using this)]
        exact ih hn.2 e
  rw [hs]; rfl
theorem getA_no {L : List Rw} {c : Cell} (h : c ∉ L.map (·.cell)) : getA L c = ⟨0, 0, 0, 0⟩ := by
  unfold getA
  rw [List.find?_eq_none.2 (fun r hr => by simpa using fun e => h (List.mem_map.2 ⟨r, hr, e⟩))]
  rfl
theorem getA_ok {L : List Rw} (h : ∀ r ∈ L, r.agg.Ok) (c : Cell) : (getA L c).Ok := by
  unfold getA
  cases hf : L.find? fun r => r.cell = c with
  | none => exact ag_ok (by unfold is64; omega) (by unfold is64; omega) (by unfold is64; omega) (by unfold is64; omega)
  | some r => exact h r (List.mem_of_find?_eq_some hf)
theorem perm_keys {m : List (Cell × Value)} {L : List Rw} (hp : m.Perm (L.map rowP)) : (m.map (·.1)).Perm (L.map (·.cell)) := by
  have := hp.map (·.1)
  rw [List.map_map] at this
  exact this
theorem mGet_rows {m : List (Cell × Value)} {L : List Rw} (hn : (m.map (·.1)).Nodup) (hp : m.Perm (L.map rowP)) (c : Cell) : mGet m c = if hasC L c = true then some (getA L c).v else none := by
  have hk := perm_keys hp
  by_cases hc : c ∈ L.map (·.cell)
  · rw [if_pos (hasC_iff.2 hc)]
    obtain ⟨r, hr, rfl⟩ := List.mem_map.1 hc
    rw [getA_mem (hk.nodup_iff.1 hn) hr]
    exact mGet_some hn (hp.mem_iff.2 (List.mem_map.2 ⟨r, hr, rfl⟩))
  · rw [if_neg (fun h => hc (hasC_iff.1 h))]
    exact mGet_none (fun h => hc (hk.mem_iff.1 h))
theorem HasMap.get {w : World} {b : Nat} {L : List Rw} (h : HasMap w b L) (v : Int) (k : ByteArray) (s : Int) (ok : Bool) :
    (Instr.lookup 83 (.map (some b)) (.agg #[.int .i64 v, .string k, .int .i64 s]) ok).run Try.prog w = .ok (if ok then .tuple #[aggV (getA L ⟨v, k, s⟩).c (getA L ⟨v, k, s⟩).s (getA L ⟨v, k, s⟩).mn (getA L ⟨v, k, s⟩).mx, .bool (hasC L ⟨v, k, s⟩)] else aggV (getA L ⟨v, k, s⟩).c (getA L ⟨v, k, s⟩).s (getA L ⟨v, k, s⟩).mn (getA L ⟨v, k, s⟩).mx) w := by
  obtain ⟨m, hm, hp⟩ := h
  have hl := MapIs.lookup (P := Try.prog) (t := 83) (kt := 46) keyCell Try.underlying83 hm ⟨v, k, s⟩ ok (z := aggV 0 0 0 0) (by kernel_rfl)
  change (Instr.lookup _ _ (.agg #[.int .i64 v, .string k, .int .i64 s]) ok).run _ _ = _ at hl
  rw [hl, mGet_rows hm.nd hp]
  by_cases hc : hasC L ⟨v, k, s⟩ = true
  · rw [if_pos hc, hc]; rfl
  · rw [if_neg hc]
    have hc2 : hasC L ⟨v, k, s⟩ = false := by simpa using hc
    rw [hc2, getA_no (fun h => hc (hasC_iff.2 h))]; rfl

theorem mem_mPut {m : List (Cell × Value)} {c : Cell} {x : Value} (p : Cell × Value) : p ∈ mPut m c x ↔ p = (c, x) ∨ (p.1 ≠ c ∧ p ∈ m) := by
  unfold mPut
  by_cases hc : c ∈ m.map (·.1)
  · rw [if_pos hc, List.mem_map]
    constructor
    · rintro ⟨q, hq, rfl⟩
      by_cases h : q.1 = c
      · rw [if_pos h]; exact .inl rfl
      · rw [if_neg h]; exact .inr ⟨h, hq⟩
    · rintro (rfl | ⟨h1, h2⟩)
      · obtain ⟨q, hq, hqc⟩ := List.mem_map.1 hc
        exact ⟨q, hq, by rw [if_pos hqc]⟩
      · exact ⟨p, h2, by rw [if_neg h1]⟩
  · rw [if_neg hc, List.mem_append, List.mem_singleton]
    constructor
    · rintro (h | h)
      · exact .inr ⟨fun e => hc (by rw [← e]; exact List.mem_map.2 ⟨p, h, rfl⟩), h⟩
      · exact .inl h
    · rintro (h | ⟨_, h⟩)
      · exact .inr h
      · exact .inl h

/-! ### sorted rows -/
def sortR (xs : List Rw) : List Rw := xs.mergeSort fun x y => !(ltOf rcmp) y x
theorem sortR_perm (xs : List Rw) : (sortR xs).Perm xs := List.mergeSort_perm _ _
theorem sortR_rise {xs : List Rw} (h : (xs.map (·.cell)).Nodup) : Rise ((sortR xs).map (·.cell)) := by
  have h1 : (sortR xs).Pairwise fun x y => ¬ ccmp y.cell x.cell < 0 := by
    have h := List.pairwise_mergeSort (le := fun x y : Rw => !(ltOf rcmp) y x) (fun a b c h1 h2 => by
      have := swo_row.ntrans c b a (by simpa using h2) (by simpa using h1)
      simpa using this) (fun a b => by
      have := tot_cell.anti a.cell b.cell
      have e : ∀ x y : Rw, ltOf rcmp x y = decide (ccmp x.cell y.cell < 0) := fun _ _ => rfl
      rw [e, e]
      simp
      omega) xs
    exact h.imp fun {x y} h => by
      have e : ltOf rcmp y x = decide (ccmp y.cell x.cell < 0) := rfl
      rw [e] at h
      simpa using h
  have h2 : ((sortR xs).map (·.cell)).Nodup := ((sortR_perm xs).map _).nodup_iff.2 h
  unfold Rise
  rw [List.pairwise_map]
  unfold List.Nodup at h2
  rw [List.pairwise_map] at h2
  exact (h1.and h2).imp (fun {x y} (hh : ¬ ccmp y.cell x.cell < 0 ∧ x.cell ≠ y.cell) => by
    have e := tot_cell.anti x.cell y.cell
    rcases Int.lt_trichotomy (ccmp x.cell y.cell) 0 with g | g | g
    · exact g
    · exact absurd (tot_cell.eq _ _ g) hh.2
    · have := hh.1; omega)
/-- Rows that rise are known by what is among them. -/
theorem nodup_rows {xs : List Rw} (h : (xs.map (·.cell)).Nodup) : xs.Nodup := by
  unfold List.Nodup at *
  rw [List.pairwise_map] at h
  exact h.imp fun h e => h (by rw [e])
theorem rise_mem_eq {xs ys : List Rw} (hx : Rise (xs.map (·.cell))) (hy : Rise (ys.map (·.cell))) (h : ∀ r, r ∈ xs ↔ r ∈ ys) : xs = ys :=
  rise_eq hx hy ((List.perm_ext_iff_of_nodup (nodup_rows hx.nodup) (nodup_rows hy.nodup)).2 h)
/-- Rows over others. -/
def putRows (L rs : List Rw) : List Rw := sortR (rs ++ L.filter fun r => decide (r.cell ∉ rs.map (·.cell)))
theorem mem_putRows {L rs : List Rw} (r : Rw) : r ∈ putRows L rs ↔ r ∈ rs ∨ (r ∈ L ∧ r.cell ∉ rs.map (·.cell)) := by
  unfold putRows
  rw [(sortR_perm _).mem_iff, List.mem_append, List.mem_filter]
  simp
theorem putRows_rise {L rs : List Rw} (hL : Rise (L.map (·.cell))) (hr : (rs.map (·.cell)).Nodup) : Rise ((putRows L rs).map (·.cell)) := by
  refine sortR_rise ?_
  rw [List.map_append, List.nodup_append]
  refine ⟨hr, hL.nodup.sublist (List.Sublist.map _ List.filter_sublist), ?_⟩
  intro a ha b hb e
  subst e
  obtain ⟨r, hr1, rfl⟩ := List.mem_map.1 hb
  have := (List.mem_filter.1 hr1).2
  simp only [decide_eq_true_eq] at this
  exact this ha
theorem putRows_len (L rs : List Rw) : (putRows L rs).length ≤ rs.length + L.length := by
  unfold putRows
  rw [(sortR_perm _).length_eq, List.length_append]
  have := List.length_filter_le (fun r => decide (r.cell ∉ rs.map (·.cell))) L
  omega
/-- A map that holds what they hold. -/
theorem HasMap.of_mem {w : World} {b : Nat} {m : List (Cell × Value)} {L : List Rw} (hm : MapIs cellV w b m) (hL : (L.map (·.cell)).Nodup) (h : ∀ p, p ∈ m ↔ p ∈ L.map rowP) : HasMap w b L := by
  refine ⟨m, hm, ?_⟩
  have h1 : m.Nodup := by
    have := hm.nd
    unfold List.Nodup at *
    rw [List.pairwise_map] at this
    exact this.imp fun h e => h (by rw [e])
  have h2 : (L.map rowP).Nodup := by
    unfold List.Nodup at *
    rw [List.pairwise_map] at *
    exact hL.imp fun h e => h (congrArg (·.1) e)
  exact (List.perm_ext_iff_of_nodup h1 h2).2 h
end Go.Proofs.Ytaicecnfodhlcaa
/- maps.Copy at maps of rows. -/
set_option linter.unusedVariables false
set_option linter.unusedSimpArgs false
namespace Go.Proofs.Ytaicecnfodhlcaa
open Go.RowKit Go.Deep

/-- What has been copied. -/
def CopyDone (m1 m2 left m' : List (Cell × Value)) : Prop := ∀ p, p ∈ m' ↔ (p ∈ m2 ∧ p.1 ∉ left.map (·.1)) ∨ (p ∈ m1 ∧ (p.1 ∉ m2.map (·.1) ∨ p.1 ∈ left.map (·.1)))
theorem CopyDone.start (m1 m2 : List (Cell × Value)) : CopyDone m1 m2 m2 m1 := fun p => by
  constructor
  · intro h
    by_cases hc : p.1 ∈ m2.map (·.1)
    · exact .inr ⟨h, .inr hc⟩
    · exact .inr ⟨h, .inl hc⟩
  · rintro (⟨h1, h2⟩ | ⟨h, _⟩)
    · exact absurd (List.mem_map.2 ⟨p, h1, rfl⟩) h2
    · exact h
theorem mem_left {left : List (Cell × Value)} {c d : Cell} : c ∈ (left.filter fun q => decide (q.1 ≠ d)).map (·.1) ↔ c ≠ d ∧ c ∈ left.map (·.1) := by
  constructor
  · intro h
    obtain ⟨q, hq, rfl⟩ := List.mem_map.1 h
    have := List.mem_filter.1 hq
    exact ⟨by simpa using this.2, List.mem_map.2 ⟨q, this.1, rfl⟩⟩
  · rintro ⟨h1, h2⟩
    obtain ⟨q, hq, rfl⟩ := List.mem_map.1 h2
    exact List.mem_map.2 ⟨q, List.mem_filter.2 ⟨hq, by simpa using h1⟩, rfl⟩
theorem CopyDone.step {m1 m2 left m' : List (Cell × Value)} (h : CopyDone m1 m2 left m') {c : Cell} {x : Value} (hn : (m2.map (·.1)).Nodup) (hq : (c, x) ∈ m2) (hl : c ∈ left.map (·.1)) : CopyDone m1 m2 (left.filter fun q => decide (q.1 ≠ c)) (mPut m' c x) := by
  intro p
  rw [mem_mPut, h p, mem_left]
  have hcm : c ∈ m2.map (·.1) := List.mem_map.2 ⟨_, hq, rfl⟩
  constructor
  · rintro (rfl | ⟨h1, h2 | ⟨h2, h3⟩⟩)
    · exact .inl ⟨hq, fun h => h.1 rfl⟩
    · exact .inl ⟨h2.1, fun h => h2.2 h.2⟩
    · exact .inr ⟨h2, h3.imp id fun h => ⟨h1, h⟩⟩
  · rintro (⟨h1, h2⟩ | ⟨h1, h2⟩)
    · by_cases hc : p.1 = c
      · have h3 := mGet_some hn hq
        have h4 := mGet_some hn (show (p.1, p.2) ∈ m2 from h1)
        rw [hc, h3] at h4
        exact .inl (by rw [← hc, Option.some.inj h4])
      · exact .inr ⟨hc, .inl ⟨h1, fun h => h2 ⟨hc, h⟩⟩⟩
    · by_cases hc : p.1 = c
      · rcases h2 with h2 | h2
        · exact absurd (by rw [hc]; exact hcm) h2
        · exact absurd hc h2.1
      · exact .inr ⟨hc, .inr ⟨h1, h2.imp id fun h => h.2⟩⟩

set_option maxHeartbeats 4000000 in
set_option maxRecDepth 100000 in
theorem mcopy_any (b1 b2 : Nat) (m1 m2 : List (Cell × Value)) (w : World) (h1 : MapIs cellV w b1 m1) (h2 : MapIs cellV w b2 m2) (hne : b1 ≠ b2) (hv : ∀ p ∈ m2, ∃ a : Ag, p.2 = a.v) :
    Calls Try.prog 31 #[.map (some b1), .map (some b2)] w fun e w' => e = .returned (.tuple #[]) ∧ (∃ m', MapIs cellV w' b1 m' ∧ ∀ p, p ∈ m' ↔ p ∈ m2 ∨ (p ∈ m1 ∧ p.1 ∉ m2.map (·.1))) ∧ Chg [b1] w w' := by
  have hb1 := h1.lt
  have hb2 := h2.lt
  have hnd := h2.nd
  have Hv := Lib.hid hv
  have Hnd := Lib.hid hnd
  clear hv hnd
  go_enter Try.func31, Try.ntmps31
  go_wp2_with (at_range; refine wpList_rangeM rfl _ rfl Try.underlying83 b2 m2 rfl h2 ?_)
  intro w1 hrg hg1 hs1
  have h11 := h1.keep (hg1.block b1 hb1 (fun e => by cases e))
  have hch1 : Chg [b1] w w1 := ⟨hg1.os, hg1.tape, hg1.output, hg1.size, fun i hi _ => hg1.block i hi (fun e => by cases e)⟩
  have hs1a := Nat.le_of_eq hs1.symm
  clear h1 h2 hs1 hg1
  go_wp2_with fail
  go_loopg [] m2.length (fun g wr => ∃ m' left, g = left.length ∧ Ranging cellV wr b2 w.heap.size m2 left ∧ MapIs cellV wr b1 m' ∧ CopyDone m1 m2 left m' ∧ Chg [b1] w wr ∧ w.heap.size + 1 ≤ wr.heap.size)
  case atStart => exact ⟨m1, m2, rfl, hrg, h11, CopyDone.start _ _, hch1, by omega⟩
  case round =>
    obtain ⟨m', left, hg, hrg, hm, hcd, hch, hsz⟩ := hrel
    have Hg := Lib.hid hg
    have Hm := Lib.hid hm
    have Hcd := Lib.hid hcd
    have Hch := Lib.hid hch
    clear hg hm hcd hch
    go_wp2_with (at_next; refine wpList_nextC rfl _ rfl b2 w.heap.size m2 left rfl hrg ?_ ?_)
    · intro h0
      subst h0
      have hfin : ∃ m', MapIs cellV wr b1 m' ∧ ∀ p, p ∈ m' ↔ p ∈ m2 ∨ (p ∈ m1 ∧ p.1 ∉ m2.map (·.1)) := ⟨m', Hm.out, fun p => by have := Hcd.out p; simpa using this⟩
      have Hfin := Lib.hid hfin
      clear hfin
      go_wp2_with fail
      go_end0
      exact ⟨rfl, Hfin.out, Hch.out⟩
    · intro c y w2 hpl hrg2 hgr2 hs2 hen
      have hs2a := Nat.le_of_eq hs2
      have hs2b := Nat.le_of_eq hs2.symm
      clear hs2
      have hym := hrg.sub.subset hpl
      obtain ⟨a, ha⟩ := Hv.out _ hym
      simp only at ha
      subst ha
      have hcl : c ∈ left.map (·.1) := List.mem_map.2 ⟨_, hpl, rfl⟩
      have hstep := Hcd.out.step Hnd.out hym hcl
      have hln : (left.map (·.1)).Nodup := Hnd.out.sublist (List.Sublist.map _ hrg.sub)
      have hlen := (left_perm hln hpl).length_eq
      have hgeq := Hg.out
      have Hmeas := Lib.hid (show (left.filter fun q => decide (q.1 ≠ c)).length < gk from by rw [hgeq]; have : (left.filter fun q => decide (q.1 ≠ c)).length + 1 = left.length := (by simpa using hlen); omega)
      have hlt2 := hrg2.lt
      obtain ⟨xv, xk, xs⟩ := c
      obtain ⟨ac, au, an, ax⟩ := a
      dsimp only at *
      have hb22 : Below w2.heap.size w2 ((w2.alloc (.cells #[.int .i64 xv, .string xk, .int .i64 xs] 46)).alloc (.cells #[.int .i64 ac, .int .i64 au, .int .i64 an, .int .i64 ax] 51)) := ((Below.refl _ _).alloc (Nat.le_refl _) _).alloc (by simp) _
      have hmW := (Hm.out.keep (hgr2.block b1 (by omega) (fun e => absurd (Option.some.inj e) (by omega)))).keep (hb22.block b1 (by omega))
      obtain ⟨w3, hrun, hm3, hg3, hs3⟩ := MapIs.update keyCell Try.underlying83 hmW ⟨xv, xk, xs⟩ (.agg #[.int .i64 ac, .int .i64 au, .int .i64 an, .int .i64 ax])
      have hrun' : (Instr.mapUpdate 83 (.map (some b1)) (.agg #[.int .i64 xv, .string xk, .int .i64 xs]) (.agg #[.int .i64 ac, .int .i64 au, .int .i64 an, .int .i64 ax])).run Try.prog ((w2.alloc (.cells #[.int .i64 xv, .string xk, .int .i64 xs] 46)).alloc (.cells #[.int .i64 ac, .int .i64 au, .int .i64 an, .int .i64 ax] 51)) = .ok () w3 := hrun
      have hrel : ∃ m' left', (left.filter fun q => decide (q.1 ≠ (⟨xv, xk, xs⟩ : Cell))).length = left'.length ∧ Ranging cellV w3 b2 w.heap.size m2 left' ∧ MapIs cellV w3 b1 m' ∧ CopyDone m1 m2 left' m' ∧ Chg [b1] w w3 ∧ w.heap.size + 1 ≤ w3.heap.size := by
        have e2 : ∀ g, g < w2.heap.size → g ≠ b1 → w3.heap[g]? = w2.heap[g]? := fun g hg hn => (hg3.block g (Nat.lt_of_lt_of_le hg hb22.size) (fun e => hn (Option.some.inj e))).trans (hb22.block g hg)
        refine ⟨_, _, rfl, by simpa using hrg2.keep (e2 b2 (by omega) (fun e => hne e.symm)) (e2 w.heap.size (by omega) (by omega)), hm3, hstep, ?_, ?_⟩
        · have hc1 := Hch.out
          refine ⟨?_, ?_, ?_, ?_, ?_⟩
          · exact hg3.os.trans (hb22.os.trans (hgr2.os.trans hc1.os))
          · exact hg3.tape.trans (hb22.tape.trans (hgr2.tape.trans hc1.tape))
          · exact hg3.output.trans (hb22.output.trans (hgr2.output.trans hc1.output))
          · have := hb22.size; have := hg3.size; have := hgr2.size; omega
          · intro i hi hn
            have hn' : i ≠ b1 := by simpa using hn
            exact (e2 i (by omega) hn').trans ((hgr2.block i (by omega) (fun e => absurd (Option.some.inj e) (by omega))).trans (hc1.block i hi hn))
        · have := hb22.size; have := hg3.size; omega
      have Hrel := Lib.hid hrel
      clear hrel hrun hm3 hg3 hs3 hmW hb22 hstep hlen hln hcl hym hpl hrg2 hgr2 hlt2 hgeq hrg
      go_wp2_with fail
      go_roundg (left.filter fun q => decide (q.1 ≠ (⟨xv, xk, xs⟩ : Cell))).length
      case measure => exact Hmeas.out
      case rel => exact Hrel.out
/-- .. by the rows: what was there, and what is copied over it. -/
theorem mcopy_rows (b1 b2 : Nat) (L rs : List Rw) (w : World) (h1 : HasMap w b1 L) (h2 : HasMap w b2 rs) (hne : b1 ≠ b2) (hL : Rise (L.map (·.cell))) (hr : (rs.map (·.cell)).Nodup) :
    Calls Try.prog 31 #[.map (some b1), .map (some b2)] w fun e w' => e = .returned (.tuple #[]) ∧ HasMap w' b1 (putRows L rs) ∧ Chg [b1] w w' := by
  obtain ⟨m1, hm1, hp1⟩ := h1
  obtain ⟨m2, hm2, hp2⟩ := h2
  refine (mcopy_any b1 b2 m1 m2 w hm1 hm2 hne (fun p hp => ?_)).mono ?_
  · obtain ⟨r, _, rfl⟩ := List.mem_map.1 (hp2.mem_iff.1 hp)
    exact ⟨r.agg, rfl⟩
  · rintro e w' ⟨he, ⟨m', hm', hmem⟩, hc⟩
    refine ⟨he, HasMap.of_mem hm' (putRows_rise hL hr).nodup (fun p => ?_), hc⟩
    rw [hmem p, hp2.mem_iff, hp1.mem_iff, (perm_keys hp2).mem_iff]
    constructor
    · rintro (h | ⟨h, hn⟩)
      · obtain ⟨r, hr, rfl⟩ := List.mem_map.1 h
        exact List.mem_map.2 ⟨r, (mem_putRows r).2 (.inl hr), rfl⟩
      · obtain ⟨r, hr, rfl⟩ := List.mem_map.1 h
        exact List.mem_map.2 ⟨r, (mem_putRows r).2 (.inr ⟨hr, hn⟩), rfl⟩
    · intro h
      obtain ⟨r, hr, rfl⟩ := List.mem_map.1 h
      rcases (mem_putRows r).1 hr with h | ⟨h, hn⟩
      · exact .inl (List.mem_map.2 ⟨r, h, rfl⟩)
      · exact .inr ⟨List.mem_map.2 ⟨r, h, rfl⟩, hn⟩
end Go.Proofs.Ytaicecnfodhlcaa
/- Kill. -/
set_option linter.unusedVariables false
set_option linter.unusedSimpArgs false
namespace Go.Proofs.Ytaicecnfodhlcaa
open Go.RowKit Go.Deep

/-- What an operation may turn: the model's own blocks; where its blocks lie behind it. -/
structure Turn (w w' : World) (B B' : MB) : Prop where
  mp : B'.mp = B.mp
  chg : ChgP (fun g => B.lab g ≠ .no) w w'
  lab : ∀ g, B'.lab g ≠ .no → B.lab g ≠ .no ∨ w.heap.size ≤ g
theorem Turn.trans {a b c : World} {B B' B'' : MB} (h : Turn a b B B') (k : Turn b c B' B'') : Turn a c B B'' :=
  ⟨k.mp.trans h.mp, h.chg.late k.chg h.lab, fun g hg => by
    rcases k.lab g hg with h1 | h1
    · exact h.lab g h1
    · exact .inr (Nat.le_trans h.chg.size h1)⟩
theorem Turn.of_below {w w' : World} (B : MB) (h : Below w.heap.size w w') : Turn w w' B B := ⟨rfl, ChgP.of_below h, fun g hg => .inl hg⟩
theorem Turn.of_chg {w w' : World} {B : MB} {l : List Nat} (h : Chg l w w') (hl : ∀ g ∈ l, B.lab g ≠ .no) : Turn w w' B B := ⟨rfl, (ChgP.of h).mono hl, fun g hg => .inl hg⟩

theorem IsModel.viewAt {w : World} {B : MB} {S : Mst} (h : IsModel w B S) {i : Nat} (hi : i < S.cfg.vs.length) : ∃ vb vo, B.av = some ⟨vb, vo, none⟩ ∧ vb < w.heap.size ∧ w.cell? ⟨vb, vo + i * 3, none⟩ = some (.int .i64 S.cfg.vs[i].size) ∧ w.cell? ⟨vb, vo + i * 3 + 1, none⟩ = some (.int .i64 S.cfg.vs[i].slide) ∧ w.cell? ⟨vb, vo + i * 3 + 2, none⟩ = some (.int .i64 S.cfg.vs[i].late) :=
  (h.views.own.sl0 fun _ => rfl).at3 hi rfl
theorem IsModel.markAt {w : World} {B : MB} {S : Mst} (h : IsModel w B S) {o : Int} (h0 : 0 ≤ o) (h1 : o < S.cfg.op) : ∃ mb mo bm bl, B.ma = some ⟨mb, mo, none⟩ ∧ mb < w.heap.size ∧ w.cell? ⟨mb, mo + o.toNat, none⟩ = some (.pointer (some ⟨bm, 0, none⟩)) ∧ IsMarks w bm bl (S.ms.getD o.toNat []) := by
  have hio : o.toNat < S.ms.length := toNat_lt h0 (by rw [h.inv.msl]; exact h1)
  have hik : o.toNat < B.mks.length := by rw [h.marks.len]; exact hio
  obtain ⟨mb, mo, hme, hmb, hm0⟩ := (h.marks.own.sl0 (fun _ => rfl)).at1 hik rfl
  rw [Nat.mul_one] at hm0
  have hmk := (h.marks.at' o.toNat hik hio).1
  have hlo : S.ms.getD o.toNat [] = S.ms[o.toNat] := by simp [hio]
  rw [hlo]
  exact ⟨mb, mo, _, _, hme, hmb, hm0, hmk⟩

/-- The cell c is let go: the state behind it, and what is told. -/
def Mst.kill (S : Mst) (c : Cell) : Mst × Int :=
  if hasC S.L c = true then
    if S.dueP (oprK c.k S.cfg.op) c = true then
      if S.dueOf (oprK c.k S.cfg.op) = some c then ({ S with L := S.L.filter fun r => decide (r.cell ≠ c) }, 0) else (S, 53)
    else (S, 51)
  else (S, 51)
theorem Mst.Inv.filter {S : Mst} (h : S.Inv) (p : Rw → Bool) : ({ S with L := S.L.filter p } : Mst).Inv :=
  ⟨h.cfg, h.msl, h.mrow, h.tdl, List.Pairwise.sublist (List.Sublist.map _ List.filter_sublist) h.rise, fun r hr => h.may r (List.mem_filter.1 hr).1, h.now, h.old, h.slk, h.sok, h.cnt, h.tms, h.tok⟩
/-- A cell is deleted. -/
theorem HasMap.del {w : World} {b : Nat} {L : List Rw} (h : HasMap w b L) (v : Int) (k : ByteArray) (s : Int) (ty : TypeId) :
    ∃ w', (Builtin.delete_ #[83, 46] ty #[.map (some b), .agg #[.int .i64 v, .string k, .int .i64 s]]).run Try.prog w = .ok (.tuple #[]) w' ∧ HasMap w' b (L.filter fun r => decide (r.cell ≠ ⟨v, k, s⟩)) ∧ Chg [b] w w' ∧ w'.heap.size = w.heap.size := by
  obtain ⟨m, hm, hp⟩ := h
  obtain ⟨w', h1, h2, h3, h4⟩ := MapIs.delete (P := Try.prog) keyCell Try.underlying83 hm ⟨v, k, s⟩ ty
  refine ⟨w', h1, ⟨_, h2, ?_⟩, Chg.of_grown h3, h4⟩
  unfold mDel
  have h5 := hp.filter fun p => decide (p.1 ≠ (⟨v, k, s⟩ : Cell))
  refine h5.trans ?_
  rw [List.filter_map]
  exact List.Perm.refl _

/-- What stays in Kill's drawn regions. -/
abbrev KillA (mp bt g : Nat) (v : Int) (k : ByteArray) (s : Int) (lk : Value) (W0 W : World) : Prop :=
  Below W0.heap.size W0 W ∧ W.cell? ⟨mp, 12, none⟩ = some (.map (some bt)) ∧ W.cell? ⟨g, 0, none⟩ = some (.int .i64 v) ∧ W.cell? ⟨g, 1, none⟩ = some (.string k) ∧ W.cell? ⟨g, 2, none⟩ = some (.int .i64 s) ∧
    (Instr.lookup 83 (.map (some bt)) (.agg #[.int .i64 v, .string k, .int .i64 s]) true).run Try.prog W = .ok lk W

abbrev KillB (mp vb vo i n vcap mb mo k nm mcap bm g : Nat) (va vb' vc xv xs : Int) (W0 W : World) : Prop :=
  Below W0.heap.size W0 W ∧ W.cell? ⟨mp, 0, none⟩ = some (.slice (some ⟨vb, vo, none⟩) n vcap) ∧ W.cell? ⟨mp, 13, none⟩ = some (.slice (some ⟨mb, mo, none⟩) nm mcap) ∧
    W.cell? ⟨vb, vo + i * 3, none⟩ = some (.int .i64 va) ∧ W.cell? ⟨vb, vo + i * 3 + 1, none⟩ = some (.int .i64 vb') ∧ W.cell? ⟨vb, vo + i * 3 + 2, none⟩ = some (.int .i64 vc) ∧
    W.cell? ⟨mb, mo + k, none⟩ = some (.pointer (some ⟨bm, 0, none⟩)) ∧ W.cell? ⟨g, 0, none⟩ = some (.int .i64 xv) ∧ W.cell? ⟨g, 2, none⟩ = some (.int .i64 xs)

set_option maxRecDepth 100000 in
set_option maxHeartbeats 8000000 in
theorem kill_any {w : World} {B : MB} {S : Mst} (h : IsModel w B S) (c : Cell) (hmax : S.L.length ≤ 100000000) :
    Calls Try.prog 16 #[.pointer (some ⟨B.mp, 0, none⟩), .agg #[.int .i64 c.v, .string c.k, .int .i64 c.s]] w fun e w' => e = .returned (.int .i64 (S.kill c).2) ∧ IsModel w' B (S.kill c).1 ∧ Turn w w' B B := by
  obtain ⟨xv, xk, xs⟩ := c
  have hmp : B.mp < w.heap.size := h.lt _ (by rw [h.obj.lb]; simp)
  have hb0 : Below w.heap.size w (w.alloc (.cells #[.int .i64 xv, .string xk, .int .i64 xs] 46)) := (Below.refl _ _).alloc (Nat.le_refl _) _
  have hM : ∀ W, Below w.heap.size w W → IsModel W B S := fun W hW => h.below hW
  have hz0 : (w.alloc (.cells #[.int .i64 xv, .string xk, .int .i64 xs] 46)).heap.size = w.heap.size + 1 := by simp
  have kp : ∀ W, Below (w.alloc (.cells #[.int .i64 xv, .string xk, .int .i64 xs] 46)).heap.size (w.alloc (.cells #[.int .i64 xv, .string xk, .int .i64 xs] 46)) W → KillA B.mp B.bt w.heap.size xv xk xs (.tuple #[aggV (getA S.L ⟨xv, xk, xs⟩).c (getA S.L ⟨xv, xk, xs⟩).s (getA S.L ⟨xv, xk, xs⟩).mn (getA S.L ⟨xv, xk, xs⟩).mx, .bool (hasC S.L ⟨xv, xk, xs⟩)]) (w.alloc (.cells #[.int .i64 xv, .string xk, .int .i64 xs] 46)) W := by
    intro W hW
    have hbw := hb0.trans (hW.mono (by omega))
    have hm := hM W hbw
    have f7 := (hW.block w.heap.size (by omega)).trans (blk_at (w := w) (o := .cells #[.int .i64 xv, .string xk, .int .i64 xs] 46) rfl)
    obtain ⟨_, _, _, _, c12, _⟩ := hm.obj.cells
    have hg := hm.there.map.get xv xk xs true
    exact ⟨hW, c12, cell_blk f7 0, cell_blk f7 1, cell_blk f7 2, hg⟩
  generalize hAg : getA S.L ⟨xv, xk, xs⟩ = ag at *
  generalize hHas : hasC S.L ⟨xv, xk, xs⟩ = hs at *
  obtain ⟨ac, au, an, ax⟩ := ag
  dsimp only at *
  have Hh := Lib.hid h
  have HM := Lib.hid hM
  have Hb0 := Lib.hid hb0
  have HAg := Lib.hid hAg
  have HHas := Lib.hid hHas
  have Hmax := Lib.hid hmax
  clear h hM hz0 hAg hHas hmax
  generalize hW0 : w.alloc (.cells #[.int .i64 xv, .string xk, .int .i64 xs] 46) = W0 at *
  have HW0 := Lib.hid hW0
  clear hW0
  go_enter Try.func16, Try.ntmps16
  go_wp2_with fail
  rw [HW0.out]
  have kpD := kp _ (Below.refl _ _).drew
  go_region_held3 (fun W => KillA B.mp B.bt w.heap.size xv xk xs (.tuple #[aggV ac au an ax, .bool hs]) W0 W) (first | exact kpD | assumption | exact kp _ ((Below.refl _ _).drew.alloc (Nat.le_refl _) _)) (fail)
  all_goals (
    cases hs
    · have hfin : (S.kill ⟨xv, xk, xs⟩) = (S, 51) := by unfold Mst.kill; rw [HHas.out]; rfl
      have Hfin := Lib.hid hfin
      clear hfin
      go_wp2_with fail
      go_ret
      have hb1 : Below w.heap.size w (W0.alloc (.cells #[.int .i64 ac, .int .i64 au, .int .i64 an, .int .i64 ax] 51)).drew := (hb0.alloc hb0.size _).drew
      rw [Hfin.out]
      exact ⟨rfl, HM.out _ hb1, Turn.of_below B hb1⟩
    · have hcm : (⟨xv, xk, xs⟩ : Cell) ∈ S.L.map (·.cell) := hasC_iff.1 HHas.out
      obtain ⟨r, hrL, hrc⟩ := List.mem_map.1 hcm
      obtain ⟨⟨i, hi, hci, _, hck, hcs1, hcs2⟩, _⟩ := Hh.out.inv.may r hrL
      rw [hrc] at hci hck hcs1 hcs2
      simp only at hci hck hcs1 hcs2
      subst hci
      have hb1 : Below w.heap.size w (W0.alloc (.cells #[.int .i64 ac, .int .i64 au, .int .i64 an, .int .i64 ax] 51)).drew := (hb0.alloc hb0.size _).drew
      have hopr := mOperator_any (HM.out _ hb1) xk (Nat.le_trans hck (by decide))
      have hbd := oprK_bd xk Hh.out.inv.cfg.op.1 Hh.out.inv.cfg.op.2
      obtain ⟨vb, vo, hve, hvb, v0, v1, v2⟩ := Hh.out.viewAt hi
      obtain ⟨mb, mo, bm, bl, hme, hmb, m0, hmk⟩ := Hh.out.markAt hbd.1 hbd.2
      have hvok := Hh.out.inv.cfg.vok _ (List.getElem_mem hi)
      have hdue := due_any (Hh.out) (oprK xk S.cfg.op) hbd.1 hbd.2
      obtain ⟨c0, _, _, _, _, c13, _⟩ := Hh.out.obj.cells
      have hdp : S.dueP (oprK xk S.cfg.op) ⟨i, xk, xs⟩ = (S.cfg.vs[i]).shut xs (leastOf (S.ms.getD (oprK xk S.cfg.op).toNat [])) := by
        unfold Mst.dueP
        simp [hi]
      have Hdp := Lib.hid hdp
      have f8 : (W0.alloc (.cells #[.int .i64 ac, .int .i64 au, .int .i64 an, .int .i64 ax] 51)).drew.heap[w.heap.size]? = some (.cells #[.int .i64 i, .string xk, .int .i64 xs] 46 (0, 0)) := by
        have e1 : W0.heap[w.heap.size]? = some (.cells #[.int .i64 i, .string xk, .int .i64 xs] 46 (0, 0)) := by rw [← HW0.out]; exact blk_at rfl
        exact (blk_old (lt_of_block e1)).trans e1
      have hoi : oprK xk S.cfg.op < (S.ms.length : Int) := by rw [Hh.out.inv.msl]; exact hbd.2
      have hoo : ((oprK xk S.cfg.op).toNat : Int) = oprK xk S.cfg.op := by omega
      have hdueF : dueV (S.dueOf (oprK xk S.cfg.op)) = dueV (S.dueOf (oprK xk S.cfg.op)) := rfl
      have hop0 := hbd.1
      rw [hve] at c0
      rw [hme] at c13
      generalize hW1 : (W0.alloc (.cells #[.int .i64 ac, .int .i64 au, .int .i64 an, .int .i64 ax] 51)).drew = W1 at *
      have HW1 := Lib.hid hW1
      have Hbd := Lib.hid hbd
      have kB : ∀ W, Below W1.heap.size W1 W → KillB B.mp vb vo i S.cfg.vs.length B.vcap mb mo (oprK xk S.cfg.op).toNat S.ms.length B.mcap bm w.heap.size S.cfg.vs[i].size S.cfg.vs[i].slide S.cfg.vs[i].late i xs W1 W := by
        intro W hW
        have hbw := hb1.trans (hW.mono hb1.size)
        have f9 := (hW.block w.heap.size (lt_of_block f8)).trans f8
        exact ⟨hW, (hbw.cell (p := ⟨B.mp, 0, none⟩) hmp).trans c0, (hbw.cell (p := ⟨B.mp, 13, none⟩) hmp).trans c13, (hbw.cell (p := ⟨vb, _, none⟩) hvb).trans v0, (hbw.cell (p := ⟨vb, _, none⟩) hvb).trans v1, (hbw.cell (p := ⟨vb, _, none⟩) hvb).trans v2, (hbw.cell (p := ⟨mb, _, none⟩) hmb).trans m0, cell_blk f9 0, cell_blk f9 2⟩
      have hls : ∀ W, Below W1.heap.size W1 W → Calls Try.prog 24 #[.pointer (some ⟨bm, 0, none⟩)] W fun e w' => e = .returned (.int .i64 (leastOf (S.ms.getD (oprK xk S.cfg.op).toNat []))) ∧ W = w' := by
        intro W hW
        have hbw := hb1.trans (hW.mono hb1.size)
        exact marksLeast_any bm bl _ W (hmk.keep (hbw.block _ hmk.lt.1) (hbw.block _ hmk.lt.2))
      have hcl := fun W => closed_any S.cfg.vs[i].size S.cfg.vs[i].slide S.cfg.vs[i].late xs (leastOf (S.ms.getD (oprK xk S.cfg.op).toNat [])) W hvok (by omega) (by omega)
      rw [show (⟨S.cfg.vs[i].size, S.cfg.vs[i].slide, S.cfg.vs[i].late⟩ : View) = S.cfg.vs[i] from rfl] at hcl
      have hdue : ∀ W, Below W1.heap.size W1 W → Calls Try.prog 29 #[.pointer (some ⟨B.mp, 0, none⟩), .int .i64 (oprK xk S.cfg.op)] W fun e w' => e = .returned (dueV (S.dueOf (oprK xk S.cfg.op))) ∧ Below W.heap.size W w' := fun W hW => due_any (HM.out _ (hb1.trans (hW.mono hb1.size))) _ Hbd.out.1 Hbd.out.2 Hmax.out
      have Hdue := Lib.hid hdue
      clear hdp hdue hdueF hvok hmk v0 v1 v2 m0 c0 c13 hbd kpD kp hcm hrc hrL hve hme hW1
      generalize hopE : oprK xk S.cfg.op = o at *
      have Hopr := Lib.hid hopE
      clear hopE
      generalize S.ms.getD o.toNat [] = ms at *
      generalize S.cfg.vs[i] = vw at *
      obtain ⟨va, vb', vc⟩ := vw
      dsimp only at *
      go_wp2_with fail
      refine hopr.mono ?_
      rintro e w2 ⟨rfl, hb2⟩
      go_wp2_with fail
      have hk2 := kB _ hb2
      have hk2D := kB _ hb2.drew
      clear hk2
      go_region_held3 (fun W => KillB B.mp vb vo i S.cfg.vs.length B.vcap mb mo o.toNat S.ms.length B.mcap bm w.heap.size va vb' vc i xs W1 W) (first | exact hk2D | assumption)
        (first
          | (go_at_call 24; refine (hls _ hk2D.1).mono ?_; rintro e w3 ⟨rfl, hw3⟩; subst hw3)
          | (go_at_call 47; refine (hcl _).mono ?_; rintro e w4 ⟨rfl, hb4⟩; have hk4 := kB _ (Below.trans hk2D.1 (hb4.mono hk2D.1.size))))
      have hb4 := Below.trans hb1 (hk4.1.mono hb1.size)
      have Hb4 := Lib.hid hb4
      cases hsh : View.shut ⟨va, vb', vc⟩ xs (leastOf ms)
      · have hfin : S.kill ⟨i, xk, xs⟩ = (S, 51) := by unfold Mst.kill; rw [HHas.out, if_pos rfl]; rw [Hopr.out, Hdp.out, hsh]; rfl
        have Hfin := Lib.hid hfin
        clear hfin
        go_wp2_with fail
        go_ret
        rw [Hfin.out]
        exact ⟨rfl, HM.out _ Hb4.out, Turn.of_below B Hb4.out⟩
      · have hdue := Hdue.out _ hk4.1
        clear hls hcl kB hb4
        go_wp2_with fail
        refine hdue.mono ?_
        rintro e w5 ⟨rfl, hb5⟩
        obtain ⟨d, hd⟩ : ∃ d, S.dueOf o = some d := by
          have hm : (⟨i, xk, xs⟩ : Cell) ∈ (S.L.map (·.cell)).filter (S.dueP o) := List.mem_filter.2 ⟨hasC_iff.1 HHas.out, by rw [Hdp.out]; exact hsh⟩
          unfold Mst.dueOf
          cases hf : (S.L.map (·.cell)).filter (S.dueP o) with
          | nil => rw [hf] at hm; cases hm
          | cons a t => exact ⟨a, rfl⟩
        obtain ⟨dv, dk, ds⟩ := d
        rw [hd]
        have hneq := fun W => run_neq_cell dv dk ds i xk xs W
        have hb5' := Hb4.out.trans (hb5.mono Hb4.out.size)
        have f5 : w5.heap[w.heap.size]? = some (.cells #[.int .i64 i, .string xk, .int .i64 xs] 46 (0, 0)) := (((hk4.1.trans (hb5.mono hk4.1.size)).block _ (lt_of_block f8))).trans f8
        have hb6 : Below w.heap.size w (w5.alloc (.cells #[.int .i64 dv, .string dk, .int .i64 ds] 46)) := hb5'.alloc hb5'.size _
        have f6 : (w5.alloc (.cells #[.int .i64 dv, .string dk, .int .i64 ds] 46)).heap[w.heap.size]? = some (.cells #[.int .i64 i, .string xk, .int .i64 xs] 46 (0, 0)) := (blk_old (lt_of_block f5)).trans f5
        have g0 := cell_blk f6 0
        have g1 := cell_blk f6 1
        have g2 := cell_blk f6 2
        simp at g0 g1 g2
        have Hf6 := Lib.hid f6
        have Hb6 := Lib.hid hb6
        have hkill : S.kill ⟨i, xk, xs⟩ = if (⟨dv, dk, ds⟩ : Cell) = ⟨i, xk, xs⟩ then ({ S with L := S.L.filter fun r => decide (r.cell ≠ (⟨i, xk, xs⟩ : Cell)) }, 0) else (S, 53) := by
          unfold Mst.kill
          rw [HHas.out, if_pos rfl]
          rw [Hopr.out, Hdp.out, hsh, if_pos rfl, hd]
          by_cases hc : (⟨dv, dk, ds⟩ : Cell) = ⟨i, xk, xs⟩
          · rw [if_pos hc, if_pos (by rw [hc])]
          · rw [if_neg hc, if_neg (fun e => hc (Option.some.inj e))]
        have Hkill := Lib.hid hkill
        clear hk4 hk2D hb5 hb2 f5 f6 hb6 hb5' hkill hd
        by_cases hc : (⟨dv, dk, ds⟩ : Cell) = ⟨i, xk, xs⟩
        · have Hc := Lib.hid hc
          have hcd : decide ((⟨dv, dk, ds⟩ : Cell) = ⟨i, xk, xs⟩) = true := by simpa using hc
          obtain ⟨w7, hdel, hm7, hc7, hz7⟩ := ((HM.out _ Hb6.out).there.map.keep (w' := (w5.alloc (.cells #[.int .i64 dv, .string dk, .int .i64 ds] 46)).drew) rfl).del i xk xs 0
          have hM6 := HM.out _ (Hb6.out.drew)
          obtain ⟨_, _, _, _, e12, _⟩ := hM6.obj.cells
          have e12' : (w5.alloc (.cells #[.int .i64 dv, .string dk, .int .i64 ds] 46)).cell? ⟨B.mp, 12, none⟩ = some (.map (some B.bt)) := e12
          have hM7 : IsModel w7 B { S with L := S.L.filter fun r => decide (r.cell ≠ (⟨i, xk, xs⟩ : Cell)) } := by
            refine hM6.mapped hm7 (Nat.le_of_eq hz7.symm) (fun g hg hn => hc7.block g hg (by simpa using hn)) rfl (hM6.inv.filter _)
          have hbt := Hh.out.there.map.lt
          have hT7 : Turn w w7 B B := (Turn.of_below B Hb6.out.drew).trans (Turn.of_chg hc7 (fun g hg => by rw [List.mem_singleton.1 hg, Hh.out.there.lb]; simp))
          have HM7 := Lib.hid hM7
          have HT7 := Lib.hid hT7
          simp only [hcd] at hneq
          clear hM6 hM7 hT7 hm7 hc7 hc hcd e12
          go_wp2_with fail
          generalize w5.alloc (.cells #[.int .i64 dv, .string dk, .int .i64 ds] 46) = W6 at *
          go_region
          go_wp2_with fail
          go_ret
          rw [Hkill.out, if_pos Hc.out]
          exact ⟨rfl, HM7.out, HT7.out⟩
        · have hcd : decide ((⟨dv, dk, ds⟩ : Cell) = ⟨i, xk, xs⟩) = false := by simpa using hc
          have Hc := Lib.hid hc
          simp only [hcd] at hneq
          clear hc hcd
          go_wp2_with fail
          go_ret
          rw [Hkill.out, if_neg Hc.out]
          exact ⟨rfl, HM.out _ Hb6.out, Turn.of_below B Hb6.out⟩)
end Go.Proofs.Ytaicecnfodhlcaa
