/- Both operators side by side. -/
import Derived.Test.YtheimbhnckaonaaLendV
set_option linter.unusedVariables false
set_option linter.unusedSimpArgs false
namespace Go.Proofs.Ytheimbhnckaonaa
open Go.RowKit

/-- The document's operator stands while neither its struct nor its marks are turned, and no row of cells or views. -/
theorem IsRef.chg {l : List Nat} {w w' : World} {r : RefB} {O : Op14} (h : IsRef w r O) (hc : Chg l w w') (h1 : r.rp ∉ l) (h2 : r.rl ∉ l) (h3 : ∀ g ∈ l, ∀ cs f, w.heap[g]? ≠ some (.cells cs 51 f) ∧ w.heap[g]? ≠ some (.cells cs 49 f)) : IsRef w' r O := by
  obtain ⟨l0, hl, ho⟩ := h.obj
  have hk : ∀ {α : Type} {E sz B : Nat} {enc : α → List Value} {v : Value} {xs : List α}, Own E sz enc B w v xs → (∀ g ∈ l, ∀ cs f, w.heap[g]? ≠ some (.cells cs E f)) → Own E sz enc B w' v xs := by
    intro α E sz B enc v xs ho hE
    refine ho.chg hc fun g hg hgl => ?_
    obtain ⟨_, e | ⟨g1, c1, cur1, rfl, _, hb1, _⟩⟩ := ho
    · obtain ⟨rfl, _⟩ := e; cases hg
    · cases hg; exact hE _ hgl _ _ hb1
  exact ⟨⟨l0, (hc.block _ (lt_of_block hl) h1).trans hl, hk ho (fun g hg cs f => (h3 g hg cs f).1)⟩, h.marks.chg hc (fun g hg => by cases hg; exact h2), hk h.views (fun g hg cs f => (h3 g hg cs f).2), h.vlo, h.vhi, h.vok, h.mlo, h.mhi, h.rise, h.may, fun g hg => Nat.lt_of_lt_of_le (h.flt g hg) hc.size, fun cs t f l2 e => h.free cs t f l2 ((hc.block _ (lt_of_block hl) h1).symm.trans e)⟩

/-- Both operators, apart from one another and from all that lies under N. -/
structure Both (N : Nat) (w : World) (b : OpB) (r : RefB) (O : Op14) : Prop where
  op : IsOper w b O
  rf : IsRef w r O
  hl : r.rl ≠ b.bl
  hv : ∀ g off sp, b.av = some ⟨g, off, sp⟩ → g ≠ r.rp ∧ g ≠ r.rl
  n1 : N ≤ b.bl
  n2 : N ≤ b.br
  n3 : N ≤ r.rp
  n4 : N ≤ r.rl

theorem Both.facts {N : Nat} {w : World} {b : OpB} {r : RefB} {O : Op14} (h : Both N w b r O) : r.rp ≠ b.bl ∧ r.rp ≠ b.br ∧ r.rl ≠ b.br ∧ r.rp ≠ b.bp ∧ r.rl ≠ b.bp ∧ r.rp ≠ b.bm ∧ r.rl ≠ b.bm := by
  obtain ⟨l0, hl0, ho⟩ := h.rf.obj
  obtain ⟨m, hm, _⟩ := h.op.live
  obtain ⟨es, clock, hes, _⟩ := hm.blk
  obtain ⟨c1, hc1, _⟩ := h.op.marks.row
  have hb := h.op.obj
  have hbm := h.op.marks.obj
  have hrl : ∃ cs, w.heap[r.rl]? = some (.cells cs 2 (0, 0)) := by
    obtain ⟨_, e | ⟨g1, cc1, cur1, e, _, hb1, _⟩⟩ := h.rf.marks
    · cases e.1
    · cases e; exact ⟨_, hb1⟩
  obtain ⟨cs, hrl⟩ := hrl
  refine ⟨?_, ?_, ?_, ?_, ?_, ?_, ?_⟩ <;> intro e
  · rw [e, hc1] at hl0; simp at hl0
  · rw [e, hes] at hl0; simp at hl0
  · rw [e, hes] at hrl; simp at hrl
  · rw [e, hb] at hl0; simp at hl0
  · rw [e, hb] at hrl; simp at hrl
  · rw [e, hbm] at hl0; simp at hl0
  · rw [e, hbm] at hrl; simp at hrl

/-- The blocks that a step may turn. -/
def four (b : OpB) (r : RefB) : List Nat := [b.bl, b.br, r.rp, r.rl]
theorem Both.four_ge {N : Nat} {w : World} {b : OpB} {r : RefB} {O : Op14} (h : Both N w b r O) : ∀ x ∈ four b r, N ≤ x := by
  have := h.n1; have := h.n2; have := h.n3; have := h.n4
  unfold four
  simp; omega
theorem Both.below {N : Nat} {w w' : World} {b : OpB} {r : RefB} {O : Op14} (h : Both N w b r O) (k : Below w.heap.size w w') : Both N w' b r O :=
  ⟨h.op.below k, h.rf.below k, h.hl, h.hv, h.n1, h.n2, h.n3, h.n4⟩

/-- The operator went on: the document's stands. -/
theorem Both.rf_stays {N : Nat} {w w' : World} {b : OpB} {r : RefB} {O : Op14} (h : Both N w b r O) (hc : Chg [b.bl, b.br] w w') : IsRef w' r O := by
  obtain ⟨f1, f2, f3, _⟩ := h.facts
  obtain ⟨m, hm, _⟩ := h.op.live
  obtain ⟨es, clock, hes, _⟩ := hm.blk
  obtain ⟨c1, hc1, _⟩ := h.op.marks.row
  refine h.rf.chg hc (by simp [f1, f2]) (by simp [h.hl, f3]) ?_
  intro g hg cs f
  simp at hg
  rcases hg with rfl | rfl
  · rw [hc1]; simp
  · rw [hes]; simp
/-- The document's went on: the operator stands. -/
theorem op_stays {N : Nat} {w0 w w' : World} {b : OpB} {r : RefB} {O O' : Op14} (h : Both N w0 b r O) (ho : IsOper w b O') (hc : Chg [r.rp, r.rl] w w') : IsOper w' b O' := by
  obtain ⟨f1, f2, f3, f4, f5, f6, f7⟩ := h.facts
  have hl := h.hl
  have hlt := ho.lt
  exact ho.keep hc.size (hc.block _ hlt.1 (by simp; exact ⟨Ne.symm f4, Ne.symm f5⟩)) (hc.block _ hlt.2.1 (by simp; exact ⟨Ne.symm f6, Ne.symm f7⟩)) (hc.block _ hlt.2.2.1 (by simp; exact ⟨Ne.symm f1, Ne.symm hl⟩)) (hc.block _ hlt.2.2.2 (by simp; exact ⟨Ne.symm f2, Ne.symm f3⟩))
    (fun g off sp e => hc.block _ (ho.vne g off sp e).2.2 (by have := h.hv g off sp e; simp [this.1, this.2]))
end Go.Proofs.Ytheimbhnckaonaa
