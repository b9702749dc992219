/- Map, At. -/
import Derived.Test.YtaicecnfodhlcaaMRows
set_option linter.unusedVariables false
set_option linter.unusedSimpArgs false
namespace Go.Proofs.Ytaicecnfodhlcaa
open Go.RowKit Go.Deep

theorem filter_allP (L : List Rw) : (L.filter fun r => allP r.cell) = L := List.filter_eq_self.2 fun _ _ => rfl

set_option maxHeartbeats 1000000 in
theorem mMap_any {w : World} {B : MB} {S : Mst} (h : IsModel w B S) (hmax : S.L.length ≤ 100000000) : Calls Try.prog 14 #[.pointer (some ⟨B.mp, 0, none⟩)] w fun e w' => ∃ v, e = .returned v ∧ Own 53 7 rowL w.heap.size w' v S.L ∧ Below w.heap.size w w' := by
  have hr := rows_all B.bt S.L w h.there.map h.inv.rise hmax
  rw [filter_allP] at hr
  obtain ⟨_, _, _, _, c12, _⟩ := h.obj.cells
  clear h
  go_enter Try.func14, Try.ntmps14
  go_wp2_with fail
  refine hr.mono ?_
  rintro e w1 ⟨v, rfl, ho, hb⟩
  obtain ⟨o, cap, rfl, _⟩ := ho.sl fun _ => rfl
  have Ho := Lib.hid ho
  clear ho
  go_wp2_with fail
  go_ret
  exact ⟨_, rfl, Ho.out, hb⟩

/-- The map of an epoch, as a value. -/
def sealV (B : MB) (S : Mst) (e : Int) : Value := if (S.seals e).isSome then .map (some (B.sk e)) else .map none
theorem PSeals.get {w : World} {B : MB} {S : Mst} (h : PSeals w B S) (e : Int) (ok : Bool) : (Instr.lookup 84 (.map (some B.bs)) (.int .i64 e) ok).run Try.prog w = .ok (if ok then .tuple #[sealV B S e, .bool (S.seals e).isSome] else sealV B S e) w := by
  obtain ⟨_, m, hm, h1, h2⟩ := h
  have hl := MapIs.lookup (P := Try.prog) (t := 84) (kt := 3) keyInt Try.underlying84 hm e ok (z := .map none) (by kernel_rfl)
  change (Instr.lookup _ _ (.int .i64 e) ok).run _ _ = _ at hl
  rw [hl]
  unfold sealV
  cases hs : S.seals e with
  | none => rw [mGet_none (h2 e hs)]; simp
  | some L => rw [mGet_some hm.nd (h1 e L hs).1]; simp

theorem range_nil (w : World) : (Instr.range 83 (.map none)).run Try.prog w = .ok (.pointer (some ⟨w.heap.size, 0, none⟩)) (w.alloc (.mapIter none 0 #[] 0)) := by
  simp only [Instr.range, Sem.run_bind, run_underlying Try.underlying83, Result.andThen, newObj, Sem.run, Sem.run_pure]
  rfl
theorem next_nil (w : World) (it : Nat) (ty : TypeId) (h : w.heap[it]? = some (.mapIter none 0 #[] 0)) : (Instr.next (.pointer (some ⟨it, 0, none⟩)) false ty).run Try.prog w = .ok (.tuple #[.bool false]) w := by
  have hgi : (getObj it).run Try.prog w = .ok (.mapIter none 0 #[] 0) w := by simp [getObj, Sem.run, h]
  simp [Instr.next, hgi, Result.andThen]

set_option maxRecDepth 100000 in
set_option maxHeartbeats 1000000 in
theorem rows_nil (fv : Value) (w : World) : Calls Try.prog 45 #[.map none, fv] w fun e w' => e = .returned (.slice none 0 0) ∧ Below w.heap.size w w' := by
  have hr := range_nil w
  have hn := fun ty => next_nil (w.alloc (.mapIter none 0 #[] 0)) w.heap.size ty (blk_at rfl)
  have hs := sortRows_none none 0 (.func (.func 71) #[] #[])
  go_enter Try.func45, Try.ntmps45
  go_wp2_with fail
  refine wp_loop_rounds 1 ?_
  rw [rounds_succ]
  go_wp2_with fail
  refine (hs _).mono ?_
  rintro e w1 ⟨rfl, rfl⟩
  go_wp2_with fail
  go_ret
  exact ⟨rfl, (Below.refl _ _).alloc (Nat.le_refl _) _⟩
end Go.Proofs.Ytaicecnfodhlcaa
