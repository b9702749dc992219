/- Which session holds what: the maps of it. -/
import Derived.Test.YtaicecnfodhlcaaMNewP
import Derived.Shelf.SlMaps.Clone
set_option linter.unusedVariables false
set_option linter.unusedSimpArgs false
namespace Go.Proofs.Ytaicecnfodhlcaa
open Go.RowKit Go.Deep

abbrev tHolds : TypeId := 85
abbrev tSet : TypeId := 138
theorem PHolds.get {w : World} {B : MB} {S : Mst} (h : PHolds w B S) (s : Int) : (Instr.lookup 85 (.map (some B.bh)) (.int .i64 s) false).run Try.prog w = .ok (.map (B.hk s)) w := by
  obtain ⟨_, m, hm, h1, h2⟩ := h
  have hl := MapIs.lookup (P := Try.prog) (t := 85) (kt := 3) keyInt Try.underlying85 hm s false (z := .map none) (by kernel_rfl)
  change (Instr.lookup _ _ (.int .i64 s) false).run _ _ = _ at hl
  rw [hl]
  cases hs : B.hk s with
  | none => rw [mGet_none (h2 s hs).1]; simp
  | some b => rw [mGet_some hm.nd (h1 s b hs).1]; simp
theorem HasSet.get {w : World} {b : Nat} {p : Int → Bool} (h : HasSet w b p) (e : Int) : (Instr.lookup 138 (.map (some b)) (.int .i64 e) false).run Try.prog w = .ok (.bool (p e)) w := by
  obtain ⟨m, hm, h1, h2⟩ := h
  have hl := MapIs.lookup (P := Try.prog) (t := 138) (kt := 3) keyInt Try.underlying138 hm e false (z := .bool false) (by kernel_rfl)
  change (Instr.lookup _ _ (.int .i64 e) false).run _ _ = _ at hl
  rw [hl]
  by_cases hc : e ∈ m.map (·.1)
  · obtain ⟨q, hq, rfl⟩ := List.mem_map.1 hc
    have hv := h1 q hq
    rw [mGet_some hm.nd (x := .bool true) (by rw [← hv]; exact hq), (h2 q.1).2 hc]
    rfl
  · rw [mGet_none hc]
    have : p e = false := by
      cases hp : p e with
      | false => rfl
      | true => exact absurd ((h2 e).1 hp) hc
    rw [this]
    rfl
theorem lookup_nilset (w : World) (e : Int) : (Instr.lookup 138 (.map none) (.int .i64 e) false).run Try.prog w = .ok (.bool false) w := by
  have hz : (zeroValue 4).run Try.prog w = .ok (.bool false) w := by kernel_rfl
  have h1 := keyInt.check true e w
  have h2 := keyInt.miss w e [] [] rfl (by simp)
  simp only [intV] at h1 h2
  simp [Instr.lookup, run_underlying Try.underlying138, Result.andThen, hz, h1, h2]
theorem PHolds.has {w : World} {B : MB} {S : Mst} (h : PHolds w B S) (s e : Int) : (Instr.lookup 138 (.map (B.hk s)) (.int .i64 e) false).run Try.prog w = .ok (.bool (S.holds s e)) w := by
  obtain ⟨_, m, hm, h1, h2⟩ := h
  cases hs : B.hk s with
  | none => rw [lookup_nilset, (h2 s hs).2 e]
  | some b => exact (h1 s b hs).2.1.get e
/-- How many epochs a session holds. -/
def Mst.heldN (S : Mst) (s : Int) : Nat := ((List.range S.now.toNat).filter fun (i : Nat) => S.holds s (i : Int)).length
theorem HasSet.len {w : World} {b : Nat} {S : Mst} {s : Int} (h : HasSet w b (S.holds s)) (hi : ∀ e, S.holds s e = true → 1 ≤ e ∧ e < S.now) (ty : TypeId) : (Builtin.len_ #[138] ty #[.map (some b)]).run Try.prog w = .ok (.int .i64 (S.heldN s)) w := by
  obtain ⟨m, hm, h1, h2⟩ := h
  rw [MapIs.len Try.underlying138 hm ty]
  have hp : (m.map (·.1)).Perm (((List.range S.now.toNat).filter fun (i : Nat) => S.holds s (i : Int)).map fun (i : Nat) => (i : Int)) := by
    rw [List.perm_ext_iff_of_nodup hm.nd]
    · intro e
      rw [← h2 e]
      constructor
      · intro he
        have := hi e he
        exact List.mem_map.2 ⟨e.toNat, List.mem_filter.2 ⟨List.mem_range.2 (by omega), by rw [show ((e.toNat : Nat) : Int) = e by omega]; exact he⟩, by omega⟩
      · intro he
        obtain ⟨i, hi', rfl⟩ := List.mem_map.1 he
        exact (List.mem_filter.1 hi').2
    · unfold List.Nodup
      rw [List.pairwise_map]
      exact ((List.nodup_range (n := S.now.toNat)).sublist List.filter_sublist).imp fun hne e => hne (by omega)
  have hl := hp.length_eq
  rw [List.length_map, List.length_map] at hl
  rw [hl]
  rfl
theorem len_nilset (w : World) (ty : TypeId) : (Builtin.len_ #[138] ty #[.map none]).run Try.prog w = .ok (.int .i64 0) w := by
  simp [Builtin.len_, run_underlying Try.underlying138, Result.andThen, goInt]
theorem PHolds.len {w : World} {B : MB} {S : Mst} (h : PHolds w B S) (s : Int) (hi : ∀ e, S.holds s e = true → 1 ≤ e ∧ e < S.now) (ty : TypeId) : (Builtin.len_ #[138] ty #[.map (B.hk s)]).run Try.prog w = .ok (.int .i64 (S.heldN s)) w := by
  obtain ⟨_, m, hm, h1, h2⟩ := h
  cases hs : B.hk s with
  | none =>
    rw [len_nilset]
    have h0 : S.heldN s = 0 := by
      unfold Mst.heldN
      rw [List.length_eq_zero_iff, List.filter_eq_nil_iff]
      intro i _
      rw [(h2 s hs).2 i]
      simp
    rw [h0]
    rfl
  | some b => exact (h1 s b hs).2.1.len hi ty
end Go.Proofs.Ytaicecnfodhlcaa
