/- A map of rows: looked up, copied into; sorted rows. -/
import Derived.Test.YtaicecnfodhlcaaMPut
set_option linter.unusedVariables false
set_option linter.unusedSimpArgs false
namespace Go.Proofs.Ytaicecnfodhlcaa
open Go.RowKit Go.Deep

/-- What a cell has; that it is there. -/
def getA (L : List Rw) (c : Cell) : Ag := ((L.find? fun r => r.cell = c).map (·.agg)).getD ⟨0, 0, 0, 0⟩
def hasC (L : List Rw) (c : Cell) : Bool := (L.find? fun r => r.cell = c).isSome
theorem hasC_iff {L : List Rw} {c : Cell} : hasC L c = true ↔ c ∈ L.map (·.cell) := by
  unfold hasC
  rw [List.find?_isSome]
  simp
theorem getA_mem {L : List Rw} (hn : (L.map (·.cell)).Nodup) {r : Rw} (h : r ∈ L) : getA L r.cell = r.agg := by
  unfold getA
  have hs : (L.find? fun x => x.cell = r.cell) = some r := by
    induction L with
    | nil => cases h
    | cons x t ih =>
      simp only [List.map_cons, List.nodup_cons] at hn
      rcases List.mem_cons.1 h with e | e
      · subst e; simp
      · have : x.cell ≠ r.cell := fun e2 => hn.1 (by rw [e2]; exact List.mem_map.2 ⟨r, e, rfl⟩)
        rw [List.find?_cons_of_neg (by simpa using this)]
        exact ih hn.2 e
  rw [hs]; rfl
theorem getA_no {L : List Rw} {c : Cell} (h : c ∉ L.map (·.cell)) : getA L c = ⟨0, 0, 0, 0⟩ := by
  unfold getA
  rw [List.find?_eq_none.2 (fun r hr => by simpa using fun e => h (List.mem_map.2 ⟨r, hr, e⟩))]
  rfl
theorem getA_ok {L : List Rw} (h : ∀ r ∈ L, r.agg.Ok) (c : Cell) : (getA L c).Ok := by
  unfold getA
  cases hf : L.find? fun r => r.cell = c with
  | none => exact ag_ok (by unfold is64; omega) (by unfold is64; omega) (by unfold is64; omega) (by unfold is64; omega)
  | some r => exact h r (List.mem_of_find?_eq_some hf)
theorem perm_keys {m : List (Cell × Value)} {L : List Rw} (hp : m.Perm (L.map rowP)) : (m.map (·.1)).Perm (L.map (·.cell)) := by
  have := hp.map (·.1)
  rw [List.map_map] at this
  exact this
theorem mGet_rows {m : List (Cell × Value)} {L : List Rw} (hn : (m.map (·.1)).Nodup) (hp : m.Perm (L.map rowP)) (c : Cell) : mGet m c = if hasC L c = true then some (getA L c).v else none := by
  have hk := perm_keys hp
  by_cases hc : c ∈ L.map (·.cell)
  · rw [if_pos (hasC_iff.2 hc)]
    obtain ⟨r, hr, rfl⟩ := List.mem_map.1 hc
    rw [getA_mem (hk.nodup_iff.1 hn) hr]
    exact mGet_some hn (hp.mem_iff.2 (List.mem_map.2 ⟨r, hr, rfl⟩))
  · rw [if_neg (fun h => hc (hasC_iff.1 h))]
    exact mGet_none (fun h => hc (hk.mem_iff.1 h))
theorem HasMap.get {w : World} {b : Nat} {L : List Rw} (h : HasMap w b L) (v : Int) (k : ByteArray) (s : Int) (ok : Bool) :
    (Instr.lookup 83 (.map (some b)) (.agg #[.int .i64 v, .string k, .int .i64 s]) ok).run Try.prog w = .ok (if ok then .tuple #[aggV (getA L ⟨v, k, s⟩).c (getA L ⟨v, k, s⟩).s (getA L ⟨v, k, s⟩).mn (getA L ⟨v, k, s⟩).mx, .bool (hasC L ⟨v, k, s⟩)] else aggV (getA L ⟨v, k, s⟩).c (getA L ⟨v, k, s⟩).s (getA L ⟨v, k, s⟩).mn (getA L ⟨v, k, s⟩).mx) w := by
  obtain ⟨m, hm, hp⟩ := h
  have hl := MapIs.lookup (P := Try.prog) (t := 83) (kt := 46) keyCell Try.underlying83 hm ⟨v, k, s⟩ ok (z := aggV 0 0 0 0) (by kernel_rfl)
  change (Instr.lookup _ _ (.agg #[.int .i64 v, .string k, .int .i64 s]) ok).run _ _ = _ at hl
  rw [hl, mGet_rows hm.nd hp]
  by_cases hc : hasC L ⟨v, k, s⟩ = true
  · rw [if_pos hc, hc]; rfl
  · rw [if_neg hc]
    have hc2 : hasC L ⟨v, k, s⟩ = false := by simpa using hc
    rw [hc2, getA_no (fun h => hc (hasC_iff.2 h))]; rfl

theorem mem_mPut {m : List (Cell × Value)} {c : Cell} {x : Value} (p : Cell × Value) : p ∈ mPut m c x ↔ p = (c, x) ∨ (p.1 ≠ c ∧ p ∈ m) := by
  unfold mPut
  by_cases hc : c ∈ m.map (·.1)
  · rw [if_pos hc, List.mem_map]
    constructor
    · rintro ⟨q, hq, rfl⟩
      by_cases h : q.1 = c
      · rw [if_pos h]; exact .inl rfl
      · rw [if_neg h]; exact .inr ⟨h, hq⟩
    · rintro (rfl | ⟨h1, h2⟩)
      · obtain ⟨q, hq, hqc⟩ := List.mem_map.1 hc
        exact ⟨q, hq, by rw [if_pos hqc]⟩
      · exact ⟨p, h2, by rw [if_neg h1]⟩
  · rw [if_neg hc, List.mem_append, List.mem_singleton]
    constructor
    · rintro (h | h)
      · exact .inr ⟨fun e => hc (by rw [← e]; exact List.mem_map.2 ⟨p, h, rfl⟩), h⟩
      · exact .inl h
    · rintro (h | ⟨_, h⟩)
      · exact .inr h
      · exact .inl h

/-! ### sorted rows -/
def sortR (xs : List Rw) : List Rw := xs.mergeSort fun x y => !(ltOf rcmp) y x
theorem sortR_perm (xs : List Rw) : (sortR xs).Perm xs := List.mergeSort_perm _ _
theorem sortR_rise {xs : List Rw} (h : (xs.map (·.cell)).Nodup) : Rise ((sortR xs).map (·.cell)) := by
  have h1 : (sortR xs).Pairwise fun x y => ¬ ccmp y.cell x.cell < 0 := by
    have h := List.pairwise_mergeSort (le := fun x y : Rw => !(ltOf rcmp) y x) (fun a b c h1 h2 => by
      have := swo_row.ntrans c b a (by simpa using h2) (by simpa using h1)
      simpa using this) (fun a b => by
      have := tot_cell.anti a.cell b.cell
      have e : ∀ x y : Rw, ltOf rcmp x y = decide (ccmp x.cell y.cell < 0) := fun _ _ => rfl
      rw [e, e]
      simp
      omega) xs
    exact h.imp fun {x y} h => by
      have e : ltOf rcmp y x = decide (ccmp y.cell x.cell < 0) := rfl
      rw [e] at h
      simpa using h
  have h2 : ((sortR xs).map (·.cell)).Nodup := ((sortR_perm xs).map _).nodup_iff.2 h
  unfold Rise
  rw [List.pairwise_map]
  unfold List.Nodup at h2
  rw [List.pairwise_map] at h2
  exact (h1.and h2).imp (fun {x y} (hh : ¬ ccmp y.cell x.cell < 0 ∧ x.cell ≠ y.cell) => by
    have e := tot_cell.anti x.cell y.cell
    rcases Int.lt_trichotomy (ccmp x.cell y.cell) 0 with g | g | g
    · exact g
    · exact absurd (tot_cell.eq _ _ g) hh.2
    · have := hh.1; omega)
/-- Rows that rise are known by what is among them. -/
theorem nodup_rows {xs : List Rw} (h : (xs.map (·.cell)).Nodup) : xs.Nodup := by
  unfold List.Nodup at *
  rw [List.pairwise_map] at h
  exact h.imp fun h e => h (by rw [e])
theorem rise_mem_eq {xs ys : List Rw} (hx : Rise (xs.map (·.cell))) (hy : Rise (ys.map (·.cell))) (h : ∀ r, r ∈ xs ↔ r ∈ ys) : xs = ys :=
  rise_eq hx hy ((List.perm_ext_iff_of_nodup (nodup_rows hx.nodup) (nodup_rows hy.nodup)).2 h)
/-- Rows over others. -/
def putRows (L rs : List Rw) : List Rw := sortR (rs ++ L.filter fun r => decide (r.cell ∉ rs.map (·.cell)))
theorem mem_putRows {L rs : List Rw} (r : Rw) : r ∈ putRows L rs ↔ r ∈ rs ∨ (r ∈ L ∧ r.cell ∉ rs.map (·.cell)) := by
  unfold putRows
  rw [(sortR_perm _).mem_iff, List.mem_append, List.mem_filter]
  simp
theorem putRows_rise {L rs : List Rw} (hL : Rise (L.map (·.cell))) (hr : (rs.map (·.cell)).Nodup) : Rise ((putRows L rs).map (·.cell)) := by
  refine sortR_rise ?_
  rw [List.map_append, List.nodup_append]
  refine ⟨hr, hL.nodup.sublist (List.Sublist.map _ List.filter_sublist), ?_⟩
  intro a ha b hb e
  subst e
  obtain ⟨r, hr1, rfl⟩ := List.mem_map.1 hb
  have := (List.mem_filter.1 hr1).2
  simp only [decide_eq_true_eq] at this
  exact this ha
theorem putRows_len (L rs : List Rw) : (putRows L rs).length ≤ rs.length + L.length := by
  unfold putRows
  rw [(sortR_perm _).length_eq, List.length_append]
  have := List.length_filter_le (fun r => decide (r.cell ∉ rs.map (·.cell))) L
  omega
/-- A map that holds what they hold. -/
theorem HasMap.of_mem {w : World} {b : Nat} {m : List (Cell × Value)} {L : List Rw} (hm : MapIs cellV w b m) (hL : (L.map (·.cell)).Nodup) (h : ∀ p, p ∈ m ↔ p ∈ L.map rowP) : HasMap w b L := by
  refine ⟨m, hm, ?_⟩
  have h1 : m.Nodup := by
    have := hm.nd
    unfold List.Nodup at *
    rw [List.pairwise_map] at this
    exact this.imp fun h e => h (by rw [e])
  have h2 : (L.map rowP).Nodup := by
    unfold List.Nodup at *
    rw [List.pairwise_map] at *
    exact hL.imp fun h e => h (congrArg (·.1) e)
  exact (List.perm_ext_iff_of_nodup h1 h2).2 h
end Go.Proofs.Ytaicecnfodhlcaa
