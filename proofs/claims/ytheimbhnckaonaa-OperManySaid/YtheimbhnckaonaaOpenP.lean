/- OperOpen: what goes was live, is closed, and never comes again (plain). -/
import Derived.Test.YtheimbhnckaonaaHas
set_option linter.unusedVariables false
set_option linter.unusedSimpArgs false
namespace Go.Proofs.Ytheimbhnckaonaa
open Go.RowKit

theorem foldl_min_le : ∀ (r : List Int) (x y : Int), x ≤ y → r.foldl min x ≤ r.foldl min y
  | [], _, _, h => h
  | z :: r, x, y, h => foldl_min_le r (min x z) (min y z) (by omega)
theorem foldl_min_set : ∀ (r : List Int) (x y : Int) (k : Nat) (v : Int), x ≤ y → r.getD k 0 ≤ v → r.foldl min x ≤ (r.set k v).foldl min y
  | [], _, _, _, _, h, _ => h
  | z :: r, x, y, 0, v, h, hv => by
    have hv' : z ≤ v := by simpa using hv
    exact foldl_min_le r (min x z) (min y v) (by omega)
  | z :: r, x, y, k + 1, v, h, hv => foldl_min_set r (min x z) (min y z) k v (by omega) (by simpa using hv)
theorem leastOf_set (ms : List Int) (k : Nat) (v : Int) (h : ms.getD k 0 ≤ v) : leastOf ms ≤ leastOf (ms.set k v) := by
  cases ms with
  | nil => exact Int.le_refl _
  | cons x r =>
    cases k with
    | zero =>
      have hv : x ≤ v := by simpa using h
      exact foldl_min_le r x v hv
    | succ k => exact foldl_min_set r x x k v (Int.le_refl _) (by simpa using h)

theorem markO_vs (O : Op14) (s t : Int) : (markO O s t).vs = O.vs := by unfold markO; split <;> rfl
theorem wroteO_vs (O : Op14) (cs : List Cell) : (wroteO O cs).vs = O.vs := by unfold wroteO; split <;> rfl
theorem wroteO_ms (O : Op14) (cs : List Cell) : (wroteO O cs).ms = O.ms := by unfold wroteO; split <;> rfl
theorem markO_least (O : Op14) (s t : Int) : leastOf O.ms ≤ leastOf (markO O s t).ms := by
  unfold markO
  split
  · exact leastOf_set O.ms s.toNat (max (O.ms.getD s.toNat 0) t) (by omega)
  · exact Int.le_refl _
theorem doO_vs (O : Op14) (k s : Int) (key : ByteArray) (t v : Int) (cs : List Cell) : (doO O k s key t v cs).vs = O.vs := by
  unfold doO
  split
  · split
    · exact wroteO_vs _ _
    · rfl
  · split
    · exact markO_vs _ _ _
    · split
      · exact wroteO_vs _ _
      · rfl
theorem doO_least (O : Op14) (k s : Int) (key : ByteArray) (t v : Int) (cs : List Cell) : leastOf O.ms ≤ leastOf (doO O k s key t v cs).ms := by
  unfold doO
  split
  · split
    · rw [wroteO_ms]; exact Int.le_refl _
    · exact Int.le_refl _
  · split
    · exact markO_least _ _ _
    · split
      · rw [wroteO_ms]; exact Int.le_refl _
      · exact Int.le_refl _

theorem shutC_mono {O O' : Op14} (hv : O'.vs = O.vs) (hm : leastOf O.ms ≤ leastOf O'.ms) {c : Cell} (h : shutC O c = true) : shutC O' c = true := by
  unfold shutC View.shut at *
  rw [hv]
  simp only [decide_eq_true_eq] at h ⊢
  omega

/-- Live cells are open. -/
def Inv (O : Op14) : Prop := ∀ c ∈ O.live, shutC O c = false
theorem inv_wrote {O : Op14} (h : Inv O) (cs : List Cell) : Inv (wroteO O cs) := by
  unfold wroteO
  split
  · rename_i he
    intro c hc
    rcases mem_insL.1 hc with h1 | h1
    · obtain ⟨_, i, hi, hv, hsh⟩ := mayE_ok (wroteE_ok he c h1)
      show (O.vs.getD c.v.toNat default).shut c.s (leastOf O.ms) = false
      rw [hv, Int.toNat_natCast, List.getD_eq_getElem?_getD, List.getElem?_eq_getElem hi]
      exact hsh
    · exact h c h1
  · exact h
theorem inv_mark {O : Op14} (h : Inv O) (s t : Int) : Inv (markO O s t) := by
  unfold markO
  split
  · intro c hc
    have h1 := (List.mem_filter.1 hc).2
    show shutC (O.marked s t) c = false
    simpa using h1
  · exact h
theorem inv_do {O : Op14} (h : Inv O) (k s : Int) (key : ByteArray) (t v : Int) (cs : List Cell) : Inv (doO O k s key t v cs) := by
  unfold doO
  split
  · split
    · exact inv_wrote h _
    · exact h
  · split
    · exact inv_mark h _ _
    · split
      · exact inv_wrote h _
      · exact h

theorem went_ok {O : Op14} (k s : Int) (key : ByteArray) (t v : Int) (cs : List Cell) {c : Cell} (hc : c ∈ doX O k s t) : c ∈ O.live ∧ shutC (doO O k s key t v cs) c = true := by
  unfold doX at hc
  split at hc
  · rename_i hk
    subst hk
    unfold markX at hc
    split at hc
    · rename_i h1
      have h2 := List.mem_filter.1 hc
      refine ⟨h2.1, ?_⟩
      unfold doO
      rw [if_neg (by decide), if_pos rfl]
      unfold markO
      rw [if_pos h1]
      exact h2.2
    · simp at hc
  · simp at hc
theorem was_ok {O : Op14} (k s : Int) (key : ByteArray) (t v : Int) (cs : List Cell) {c : Cell} (hc : c ∈ O.live) : decide (c ∈ (doO O k s key t v cs).live) = !decide (c ∈ doX O k s t) := by
  have hw : ∀ L, c ∈ (wroteO O L).live := fun L => by
    unfold wroteO
    split
    · exact mem_insL.2 (.inr hc)
    · exact hc
  by_cases h2 : k = 2
  · subst h2
    unfold doX doO
    rw [if_neg (by decide), if_pos rfl, if_pos rfl]
    unfold markO markX
    split
    · show decide (c ∈ (O.marked s t).live.filter fun c => !shutC (O.marked s t) c) = !decide (c ∈ (O.marked s t).live.filter (shutC (O.marked s t)))
      have hc' : c ∈ (O.marked s t).live := hc
      cases hs : shutC (O.marked s t) c <;> simp [List.mem_filter, hc', hs]
    · simp [hc]
  · have hx : doX O k s t = [] := by unfold doX; rw [if_neg h2]
    rw [hx]
    simp only [List.not_mem_nil, decide_false, Bool.not_false, decide_eq_true_eq]
    unfold doO
    split
    · split
      · exact hw _
      · exact hc
    · split
      · exact hw _
      · exact hc
theorem rise_doX {O : Op14} (h : Rise O.live) (k s t : Int) : Rise (doX O k s t) := by
  unfold doX
  split
  · unfold markX
    split
    · exact List.Pairwise.filter _ h
    · exact List.Pairwise.nil
  · exact List.Pairwise.nil

theorem take_ok {O : Op14} {key : ByteArray} {t : Int} {c : Cell} (hc : c ∈ takeX O key t) : c.k = key ∧ shutC O c = false := by
  unfold takeX at hc
  split at hc
  · obtain ⟨d, hd, rfl⟩ := List.mem_map.1 hc
    refine ⟨rfl, ?_⟩
    unfold openCells openN at hd
    obtain ⟨i, hi, h2⟩ := List.mem_flatMap.1 hd
    unfold viewCells at h2
    obtain ⟨s, hs, rfl⟩ := List.mem_map.1 h2
    have h3 := (List.mem_filter.1 hs).2
    show (O.vs.getD (i : Int).toNat default).shut s (leastOf O.ms) = false
    rw [Int.toNat_natCast]
    simpa using h3
  · simp at hc
theorem take_late {O : Op14} {key : ByteArray} {t : Int} (h : 0 < (takeX O key t).length) : takeL O key t = false := by
  unfold takeX at h
  unfold takeL
  split at h
  · rename_i h1
    rw [if_pos h1]
    unfold isLate
    have : (openCells O.vs t (leastOf O.ms)).isEmpty = false := by
      rw [List.length_map] at h
      cases hh : openCells O.vs t (leastOf O.ms) with
      | nil => rw [hh] at h; simp at h
      | cons _ _ => rfl
    rw [this, Bool.and_false]
  · simp at h
/-- What lives is known to be in a view, and its start fits. -/
theorem live_view {vs : List View} {c : Cell} (h : cellOk vs c) : ∃ (i : Nat) (hi : i < vs.length), c.v = i ∧ vs.getD c.v.toNat default = vs[i] ∧ -2305843009213693952 ≤ c.s ∧ c.s ≤ 2305843009213693952 := by
  obtain ⟨i, hi, hv, _, h1, h2, _⟩ := h
  refine ⟨i, hi, hv, ?_, h1, h2⟩
  rw [hv, Int.toNat_natCast, List.getD_eq_getElem?_getD, List.getElem?_eq_getElem hi]
  rfl
end Go.Proofs.Ytheimbhnckaonaa
