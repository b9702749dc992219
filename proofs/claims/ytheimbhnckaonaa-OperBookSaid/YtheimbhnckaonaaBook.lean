/- What OperBook keeps in hand: both operators, and slices that were told, apart from them and from one another. -/
import Derived.Test.YtheimbhnckaonaaGrown
import Derived.Test.YtheimbhnckaonaaPlaysC
import Derived.Test.YtheimbhnckaonaaTrio
set_option linter.unusedVariables false
set_option linter.unusedSimpArgs false
namespace Go.Proofs.Ytheimbhnckaonaa
open Go.RowKit

/-- The document's operator, its cells lying in none of F. -/
abbrev gh (r : RefB) (F : List Nat) : RefB := ⟨r.rp, r.rl, r.mcap, r.v, F⟩

theorem IsRef.ghost {w : World} {r : RefB} {O : Op14} (h : IsRef w r O) (F : List Nat) (h1 : ∀ g ∈ F, g < w.heap.size)
    (h2 : ∀ (cs : Array Value) t f l, w.heap[r.rp]? = some (.cells cs t f) → cs[2]? = some l → ∀ g ∈ F, l.ownBlock ≠ some g) : IsRef w (gh r F) O :=
  ⟨h.obj, h.marks, h.views, h.vlo, h.vhi, h.vok, h.mlo, h.mhi, h.rise, h.may, h1, h2⟩
theorem Both.ghost {N : Nat} {w : World} {b : OpB} {r : RefB} {O : Op14} (h : Both N w b r O) (F : List Nat) (h1 : ∀ g ∈ F, g < w.heap.size)
    (h2 : ∀ (cs : Array Value) t f l, w.heap[r.rp]? = some (.cells cs t f) → cs[2]? = some l → ∀ g ∈ F, l.ownBlock ≠ some g) : Both N w b (gh r F) O :=
  ⟨h.op, h.rf.ghost F h1 h2, h.hl, h.hv, h.n1, h.n2, h.n3, h.n4⟩

/-- A block that was made since. -/
theorem IsRef.more {w w' : World} {r : RefB} {O : Op14} {F : List Nat} (h : IsRef w (gh r F) O) (h' : IsRef w' (gh r F) O) (he : w'.heap[r.rp]? = w.heap[r.rp]?) (l : List Nat) (hl : ∀ g ∈ l, w.heap.size ≤ g ∧ g < w'.heap.size) : IsRef w' (gh r (l ++ F)) O := by
  refine IsRef.ghost (r := gh r F) h' (l ++ F) ?_ ?_
  · intro g hg
    rcases List.mem_append.1 hg with hg | hg
    · exact (hl g hg).2
    · exact h'.flt g hg
  · intro cs t f v e e2 g hg
    rcases List.mem_append.1 hg with hg | hg
    · intro hv
      obtain ⟨v0, hv0, ho⟩ := h.obj
      have e3 := he.symm.trans e
      have hv0' : w.heap[r.rp]? = _ := hv0
      rw [hv0'] at e3
      cases e3
      simp at e2
      subst e2
      have := (ho.ge hv).2
      have := (hl g hg).1
      omega
    · exact h'.free cs t f v e e2 g hg
theorem Both.more {N : Nat} {w w' : World} {b : OpB} {r : RefB} {O : Op14} {F : List Nat} (h : Both N w b (gh r F) O) (hb : Below w.heap.size w w') (l : List Nat) (hl : ∀ g ∈ l, w.heap.size ≤ g ∧ g < w'.heap.size) : Both N w' b (gh r (l ++ F)) O := by
  have h' := h.below hb
  exact ⟨h'.op, h.rf.more h'.rf (hb.block _ h.rf.lt.1) l hl, h'.hl, h'.hv, h'.n1, h'.n2, h'.n3, h'.n4⟩

/-- What never moves of both lies below B0. -/
structure Low (B0 : Nat) (b : OpB) (r : RefB) : Prop where
  op : b.bp < B0 ∧ b.bm < B0 ∧ b.bl < B0 ∧ b.br < B0
  av : ∀ g off sp, b.av = some ⟨g, off, sp⟩ → g < B0
  rf : r.rp < B0 ∧ r.rl < B0
  rv : ∀ g, r.v.ownBlock = some g → g < B0
theorem Low.of {N : Nat} {w : World} {b : OpB} {r : RefB} {O : Op14} (h : Both N w b r O) : Low w.heap.size b r :=
  ⟨h.op.lt, h.op.under, h.rf.lt, fun g hg => (h.rf.views.ge hg).2⟩

theorem Both.chgF {N B0 : Nat} {w w' : World} {b : OpB} {r : RefB} {O : Op14} {F l : List Nat} (h : Both N w b (gh r F) O) (low : Low B0 b r) (hc : Chg l w w') (hl : ∀ g ∈ l, g ∈ F ∧ B0 ≤ g) : Both N w' b (gh r F) O := by
  have nl : ∀ x, x < B0 → x ∉ l := fun x hx hm => by have := (hl x hm).2; omega
  obtain ⟨o1, o2, o3, o4⟩ := low.op
  obtain ⟨v0, hv0, ho⟩ := h.rf.obj
  refine ⟨h.op.keep hc.size (hc.block _ h.op.lt.1 (nl _ o1)) (hc.block _ h.op.lt.2.1 (nl _ o2)) (hc.block _ h.op.lt.2.2.1 (nl _ o3)) (hc.block _ h.op.lt.2.2.2 (nl _ o4)) (fun g off sp e => hc.block _ (h.op.under g off sp e) (nl _ (low.av g off sp e))), ?_, h.hl, h.hv, h.n1, h.n2, h.n3, h.n4⟩
  have hrp := hc.block r.rp h.rf.lt.1 (nl _ low.rf.1)
  refine ⟨⟨v0, hrp.trans hv0, ho.chg hc fun g hg hm => h.rf.free _ _ _ _ hv0 (by simp) g (hl g hm).1 hg⟩, h.rf.marks.chg hc (fun g hg => by cases hg; exact nl _ low.rf.2), h.rf.views.chg hc (fun g hg => nl _ (low.rv g hg)), h.rf.vlo, h.rf.vhi, h.rf.vok, h.rf.mlo, h.rf.mhi, h.rf.rise, h.rf.may, fun g hg => Nat.lt_of_lt_of_le (h.rf.flt g hg) hc.size, fun cs t f v e => h.rf.free cs t f v (hrp.symm.trans e)⟩

theorem mem_vblk_cons {s : Slc} {V : List Slc} {g : Nat} : g ∈ vblk (s :: V) ↔ s.v.ownBlock = some g ∨ g ∈ vblk V := by
  unfold vblk
  rw [List.filterMap_cons]
  cases h : s.v.ownBlock with
  | none => simp
  | some x => simp [eq_comm]
theorem mem_vblk_app {V V' : List Slc} {g : Nat} : g ∈ vblk (V ++ V') ↔ g ∈ vblk V ∨ g ∈ vblk V' := by
  unfold vblk
  rw [List.filterMap_append, List.mem_append]
theorem vblk_ge {B0 : Nat} {w : World} {V : List Slc} {f : Nat → List Cell} (h : Rws B0 w V f) {g : Nat} (hg : g ∈ vblk V) : B0 ≤ g ∧ g < w.heap.size := by
  obtain ⟨v, hv, e⟩ := List.mem_filterMap.1 hg
  obtain ⟨i, hi, rfl⟩ := List.getElem_of_mem hv
  exact (h.own i hi).ge e

/-- One more. -/
theorem Rws.snoc {B0 : Nat} {w : World} {V : List Slc} {f : Nat → List Cell} (h : Rws B0 w V f) {s : Slc} {xs : List Cell} (ho : Own 51 3 cellL B0 w s.v xs) (hd : ∀ g, s.v.ownBlock = some g → g ∉ vblk V) :
    Rws B0 w (V ++ [s]) (fun i => if i < V.length then f i else xs) := by
  refine ⟨fun i hi => ?_, fun i j hi hj hij g hg => ?_⟩
  · by_cases h1 : i < V.length
    · rw [if_pos h1, List.getElem_append_left h1]; exact h.own i h1
    · rw [if_neg h1, List.getElem_append_right (by omega)]; simpa using ho
  · by_cases h1 : i < V.length
    · rw [List.getElem_append_left h1] at hg
      by_cases h2 : j < V.length
      · rw [List.getElem_append_left h2]; exact h.dis i j h1 h2 hij g hg
      · rw [List.getElem_append_right (by omega)]
        intro e
        simp only [List.getElem_singleton] at e
        exact hd g e (mem_vblk h1 hg)
    · rw [List.getElem_append_right (by omega)] at hg
      simp only [List.getElem_singleton] at hg
      have hi' : i = V.length := by simp at hi; omega
      have h2 : j < V.length := by simp at hj; omega
      rw [List.getElem_append_left h2]
      intro e
      exact hd g hg (mem_vblk h2 e)

/-- All that the law has in hand: both operators; the row of slices (sa), what it holds (VA); all slices that were told (V). -/
structure Book (N B0 : Nat) (w : World) (b : OpB) (r : RefB) (O : Op14) (sa : Slc) (VA V : List Slc) (f : Nat → List Cell) : Prop where
  both : ∃ F, Both N w b (gh r F) O ∧ (∀ g ∈ vblk (sa :: V), g ∈ F)
  low : Low B0 b r
  row : Own 35 1 sliceL B0 w sa.v VA
  rws : Rws B0 w V f
  ap : ∀ g ∈ vblk V, sa.v.ownBlock ≠ some g
  hB : B0 ≤ w.heap.size
  fl : ∀ i, (f i).length ≤ 100000000

theorem Book.ge {N B0 : Nat} {w : World} {b : OpB} {r : RefB} {O : Op14} {sa : Slc} {VA V : List Slc} {f : Nat → List Cell} (h : Book N B0 w b r O sa VA V f) {g : Nat} (hg : g ∈ vblk (sa :: V)) : B0 ≤ g ∧ g < w.heap.size := by
  rcases mem_vblk_cons.1 hg with h1 | h1
  · exact h.row.ge h1
  · exact vblk_ge h.rws h1
theorem Book.start {N : Nat} {w : World} {b : OpB} {r : RefB} {O : Op14} (h : Both N w b r O) (f : Nat → List Cell) (hf : ∀ i, (f i).length ≤ 100000000) : Book N w.heap.size w b r O ⟨none, 0, 0⟩ [] [] f :=
  ⟨⟨[], h.ghost [] (fun g hg => by cases hg) (fun _ _ _ _ _ _ g hg => by cases hg), fun g hg => by simp [vblk, Value.ownBlock] at hg⟩, Low.of h, Own.nil _ _ _ _ _, ⟨fun i hi => by simp at hi, fun i j hi => by simp at hi⟩, fun g hg => by simp [vblk] at hg, Nat.le_refl _, hf⟩
theorem Book.below {N B0 : Nat} {w w' : World} {b : OpB} {r : RefB} {O : Op14} {sa : Slc} {VA V : List Slc} {f : Nat → List Cell} (h : Book N B0 w b r O sa VA V f) (hb : Below w.heap.size w w') : Book N B0 w' b r O sa VA V f := by
  obtain ⟨F, h1, h2⟩ := h.both
  exact ⟨⟨F, h1.below hb, h2⟩, h.low, h.row.below hb, h.rws.keep (fun i hi g hg => hb.block g ((h.rws.own i hi).ge hg).2), h.ap, Nat.le_trans h.hB hb.size, h.fl⟩
/-- Both operators went on. -/
theorem Book.went {N B0 : Nat} {w w' : World} {b : OpB} {r : RefB} {O O' : Op14} {sa : Slc} {VA V : List Slc} {f : Nat → List Cell} (h : Book N B0 w b r O sa VA V f) (hb : ∃ F, Both N w' b (gh r F) O' ∧ (∀ g ∈ vblk (sa :: V), g ∈ F)) (hc : Chg (four b r) w w') : Book N B0 w' b r O' sa VA V f := by
  obtain ⟨o1, o2, o3, o4⟩ := h.low.op
  obtain ⟨p1, p2⟩ := h.low.rf
  have nl : ∀ g, B0 ≤ g → g ∉ four b r := fun g hg hm => by unfold four at hm; simp at hm; omega
  exact ⟨hb, h.low, h.row.chg hc (fun g hg => nl g (h.row.ge hg).1), h.rws.keep (fun i hi g hg => hc.block g ((h.rws.own i hi).ge hg).2 (nl g ((h.rws.own i hi).ge hg).1)), h.ap, Nat.le_trans h.hB hc.size, h.fl⟩
/-- A slice is told. -/
theorem Book.tell {N B0 : Nat} {w w' : World} {b : OpB} {r : RefB} {O : Op14} {sa : Slc} {VA V : List Slc} {f : Nat → List Cell} (h : Book N B0 w b r O sa VA V f) (hb : Below w.heap.size w w') {s : Slc} {xs : List Cell}
    (ho : Own 51 3 cellL w.heap.size w' s.v xs) (hx : xs.length ≤ 100000000) : ∃ f', Book N B0 w' b r O sa VA (V ++ [s]) f' := by
  obtain ⟨F, h1, h2⟩ := h.both
  have hs : ∀ g ∈ vblk [s], w.heap.size ≤ g ∧ g < w'.heap.size := fun g hg => by
    rcases mem_vblk_cons.1 hg with e | e
    · exact ho.ge e
    · simp [vblk] at e
  have h' := h.below hb
  refine ⟨_, ⟨vblk [s] ++ F, h1.more hb _ hs, fun g hg => ?_⟩, h.low, h'.row, h'.rws.snoc (Own.mono ho h.hB) (fun g hg hm => ?_), fun g hg => ?_, h'.hB, fun i => ?_⟩
  · rcases mem_vblk_cons.1 hg with e | e
    · exact List.mem_append_right _ (h2 g (mem_vblk_cons.2 (.inl e)))
    · rcases mem_vblk_app.1 e with e | e
      · exact List.mem_append_right _ (h2 g (mem_vblk_cons.2 (.inr e)))
      · exact List.mem_append_left _ e
  · have := (ho.ge hg).1
    have := (vblk_ge h.rws hm).2
    omega
  · rcases mem_vblk_app.1 hg with e | e
    · exact h.ap g e
    · intro hsa
      have := (h.row.ge hsa).2
      have := (hs g e).1
      omega
  · split
    · exact h.fl i
    · exact hx
/-- The row has grown (behind an alloc of what is appended). -/
theorem Book.noted {N B0 : Nat} {w w' : World} {b : OpB} {r : RefB} {O : Op14} {sa sa' : Slc} {VA VA' V : List Slc} {f : Nat → List Cell} (h : Book N B0 w b r O sa VA V f) (hrow : Own 35 1 sliceL B0 w' sa'.v VA')
    (hat : (sa'.v.ownBlock = sa.v.ownBlock ∧ sa.v.ownBlock ≠ none ∧ w.grownBy w' sa.v.ownBlock) ∨ (sa'.v.ownBlock = some w.heap.size ∧ w.grownBy w' none)) : Book N B0 w' b r O sa' VA' V f := by
  obtain ⟨F, h1, h2⟩ := h.both
  rcases hat with ⟨e1, e2, k⟩ | ⟨e1, k⟩
  · obtain ⟨g, hg⟩ : ∃ g, sa.v.ownBlock = some g := Option.ne_none_iff_exists'.1 e2
    rw [hg] at k
    have hc := Chg.of_grown k
    refine ⟨⟨F, h1.chgF h.low hc (fun x hx => ?_), fun x hx => h2 x ?_⟩, h.low, hrow, h.rws.keep (fun i hi x hx => ?_), fun x hx => by rw [e1]; exact h.ap x hx, Nat.le_trans h.hB hc.size, h.fl⟩
    · simp at hx; subst hx
      exact ⟨h2 _ (mem_vblk_cons.2 (.inl hg)), (h.row.ge hg).1⟩
    · rcases mem_vblk_cons.1 hx with e | e
      · exact mem_vblk_cons.2 (.inl (by rw [← e1]; exact e))
      · exact mem_vblk_cons.2 (.inr e)
    · refine hc.block x ((h.rws.own i hi).ge hx).2 (fun hm => ?_)
      simp at hm
      subst hm
      exact h.ap _ (mem_vblk hi hx) hg
  · have hb : Below w.heap.size w w' := ⟨k.os, k.tape, k.output, k.size, fun x hx => k.block x hx (by simp)⟩
    have h' := h.below hb
    have hlt := (hrow.ge e1).2
    refine ⟨⟨[w.heap.size] ++ F, h1.more hb _ (fun x hx => ?_), fun x hx => ?_⟩, h.low, hrow, h'.rws, fun x hx e => ?_, h'.hB, h.fl⟩
    · simp at hx; subst hx; exact ⟨Nat.le_refl _, hlt⟩
    · rcases mem_vblk_cons.1 hx with e | e
      · rw [e1] at e; cases e; simp
      · exact List.mem_append_right _ (h2 x (mem_vblk_cons.2 (.inr e)))
    · rw [e1] at e; cases e
      have := (vblk_ge h.rws hx).2
      omega
/-- The slices that were told are written and grown. -/
theorem Book.spent {N B0 : Nat} {w w' : World} {b : OpB} {r : RefB} {O : Op14} {sa : Slc} {VA V : List Slc} {f : Nat → List Cell} (h : Book N B0 w b r O sa VA V f) (hc : Chg (vblk V) w w') : ∃ F, Both N w' b (gh r F) O := by
  obtain ⟨F, h1, h2⟩ := h.both
  exact ⟨F, h1.chgF h.low hc fun g hg => ⟨h2 g (mem_vblk_cons.2 (.inr hg)), (vblk_ge h.rws hg).1⟩⟩
end Go.Proofs.Ytheimbhnckaonaa
