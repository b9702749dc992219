/- Operators beside one another: they do not see one another. -/
import Derived.Test.YtheimbhnckaonaaSpoil
import Derived.Test.YtheimbhnckaonaaDo
import Derived.Test.YtheimbhnckaonaaPlaysB
set_option linter.unusedVariables false
set_option linter.unusedSimpArgs false
namespace Go.Proofs.Ytheimbhnckaonaa
open Go.RowKit

/-- What an operator x writes is no block of y's. -/
structure Apt (x y : OpB) : Prop where
  p : y.bp ≠ x.bl ∧ y.bp ≠ x.br
  m : y.bm ≠ x.bl ∧ y.bm ≠ x.br
  l : y.bl ≠ x.bl ∧ y.bl ≠ x.br
  r : y.br ≠ x.bl ∧ y.br ≠ x.br
  v : ∀ g off sp, y.av = some ⟨g, off, sp⟩ → g ≠ x.bl ∧ g ≠ x.br

theorem IsOper.apt {w w' : World} {x y : OpB} {O : Op14} (h : IsOper w y O) (ha : Apt x y) (hc : Chg [x.bl, x.br] w w') : IsOper w' y O := by
  have hlt := h.lt
  exact h.keep hc.size (hc.block _ hlt.1 (by simpa using ha.p)) (hc.block _ hlt.2.1 (by simpa using ha.m)) (hc.block _ hlt.2.2.1 (by simpa using ha.l)) (hc.block _ hlt.2.2.2 (by simpa using ha.r))
    (fun g off sp e => hc.block _ (h.vne g off sp e).2.2 (by simpa using ha.v g off sp e))

/-- An older operator and a newer one. -/
theorem apt_both {N : Nat} {w : World} {x y : OpB} {O O' : Op14} (hx : IsOper w x O) (hy : IsOper w y O') (x1 : x.bp < N ∧ x.bm < N ∧ x.bl < N ∧ x.br < N) (xv : ∀ g off sp, x.av = some ⟨g, off, sp⟩ → g < N)
    (y1 : N ≤ y.bp) (y2 : N ≤ y.bl) (y3 : N ≤ y.br) (yv : ∀ g off sp, y.av = some ⟨g, off, sp⟩ → N ≤ g) : Apt x y ∧ Apt y x := by
  obtain ⟨m, hm, _⟩ := hx.live
  obtain ⟨es, clock, hes, _⟩ := hm.blk
  obtain ⟨c1, hc1, _⟩ := hx.marks.row
  have hbm := hy.marks.obj
  refine ⟨⟨by omega, ⟨fun e => ?_, fun e => ?_⟩, by omega, by omega, fun g off sp e => by have := yv g off sp e; omega⟩, ⟨by omega, by omega, by omega, by omega, fun g off sp e => by have := xv g off sp e; omega⟩⟩
  · rw [e, hc1] at hbm; simp at hbm
  · rw [e, hes] at hbm; simp at hbm

/-- All blocks lie under N. -/
theorem IsOper.under {w : World} {b : OpB} {O : Op14} (h : IsOper w b O) : ∀ g off sp, b.av = some ⟨g, off, sp⟩ → g < w.heap.size := fun g off sp e => (h.vne g off sp e).2.2

/-- Three operators apart. -/
structure Trio (N : Nat) (w : World) (a b c : OpB) (Oa Ob Oc : Op14) : Prop where
  oa : IsOper w a Oa
  ob : IsOper w b Ob
  oc : IsOper w c Oc
  ab : Apt a b
  ac : Apt a c
  ba : Apt b a
  bc : Apt b c
  ca : Apt c a
  cb : Apt c b
  n1 : N ≤ a.bl ∧ N ≤ a.br
  n2 : N ≤ b.bl ∧ N ≤ b.br
  n3 : N ≤ c.bl ∧ N ≤ c.br

theorem Trio.below {N : Nat} {w w' : World} {a b c : OpB} {Oa Ob Oc : Op14} (h : Trio N w a b c Oa Ob Oc) (k : Below w.heap.size w w') : Trio N w' a b c Oa Ob Oc :=
  ⟨h.oa.below k, h.ob.below k, h.oc.below k, h.ab, h.ac, h.ba, h.bc, h.ca, h.cb, h.n1, h.n2, h.n3⟩
/-- Behind calls that wrote into what is newer than the operators. -/
theorem Trio.belowN {N M : Nat} {w0 w w' : World} {a b c : OpB} {Oa Ob Oc Oa' Ob' Oc' : Op14} (h0 : Trio N w0 a b c Oa' Ob' Oc') (hM : w0.heap.size ≤ M) (h : Trio N w a b c Oa Ob Oc) (k : Below M w w') : Trio N w' a b c Oa Ob Oc := by
  have l1 := h0.oa.lt
  have l2 := h0.ob.lt
  have l3 := h0.oc.lt
  exact ⟨h.oa.belowN k (by omega) (fun g off sp e => Nat.lt_of_lt_of_le (h0.oa.under g off sp e) hM), h.ob.belowN k (by omega) (fun g off sp e => Nat.lt_of_lt_of_le (h0.ob.under g off sp e) hM), h.oc.belowN k (by omega) (fun g off sp e => Nat.lt_of_lt_of_le (h0.oc.under g off sp e) hM), h.ab, h.ac, h.ba, h.bc, h.ca, h.cb, h.n1, h.n2, h.n3⟩
theorem Trio.doA {N : Nat} {w w' : World} {a b c : OpB} {Oa Ob Oc O' : Op14} (h : Trio N w a b c Oa Ob Oc) (ho : IsOper w' a O') (hc : Chg [a.bl, a.br] w w') : Trio N w' a b c O' Ob Oc :=
  ⟨ho, h.ob.apt h.ab hc, h.oc.apt h.ac hc, h.ab, h.ac, h.ba, h.bc, h.ca, h.cb, h.n1, h.n2, h.n3⟩
theorem Trio.doB {N : Nat} {w w' : World} {a b c : OpB} {Oa Ob Oc O' : Op14} (h : Trio N w a b c Oa Ob Oc) (ho : IsOper w' b O') (hc : Chg [b.bl, b.br] w w') : Trio N w' a b c Oa O' Oc :=
  ⟨h.oa.apt h.ba hc, ho, h.oc.apt h.bc hc, h.ab, h.ac, h.ba, h.bc, h.ca, h.cb, h.n1, h.n2, h.n3⟩
theorem Trio.doC {N : Nat} {w w' : World} {a b c : OpB} {Oa Ob Oc O' : Op14} (h : Trio N w a b c Oa Ob Oc) (ho : IsOper w' c O') (hc : Chg [c.bl, c.br] w w') : Trio N w' a b c Oa Ob O' :=
  ⟨h.oa.apt h.ca hc, h.ob.apt h.cb hc, ho, h.ab, h.ac, h.ba, h.bc, h.ca, h.cb, h.n1, h.n2, h.n3⟩

theorem Own.chgGe {α : Type} {E sz B : Nat} {enc : α → List Value} {w w' : World} {v : Value} {xs : List α} {l : List Nat} (h : Own E sz enc B w v xs) (k : Chg l w w') (hl : ∀ x ∈ l, x < B) : Own E sz enc B w' v xs :=
  h.chg k fun g hg hx => by have := (h.ge hg).1; have := hl g hx; omega

theorem markX_len (O : Op14) (s t : Int) : (markX O s t).length ≤ O.live.length := by
  unfold markX
  split
  · exact List.length_filter_le _ _
  · simp
theorem doX_len (O : Op14) (k s t : Int) : (doX O k s t).length ≤ O.live.length := by
  unfold doX
  split
  · exact markX_len O s t
  · simp
theorem Below.op {N : Nat} {w w1 w2 : World} {l : List Nat} (h : Below N w w1) (hc : Chg l w1 w2) (hN : N ≤ w.heap.size) (hl : ∀ x ∈ l, N ≤ x) : Below N w w2 := Below.chain h hc (Nat.le_trans hN h.size) hl
/-- A script's step reads as it did. -/
theorem Sl.six {w : World} {a : Option Addr} {xs : List St} (h : Sl 6 stL w a xs) {i : Nat} (hi : i < xs.length) :
    ∃ b off, a = some ⟨b, off, none⟩ ∧ b < w.heap.size ∧ ∀ W, Below w.heap.size w W → (W.cell? ⟨b, off + i * 6, none⟩ = some (.int .i64 xs[i].kind) ∧ W.cell? ⟨b, off + i * 6 + 1, none⟩ = some (.int .i64 xs[i].source) ∧ W.cell? ⟨b, off + i * 6 + 2, none⟩ = some (.string xs[i].key) ∧
      W.cell? ⟨b, off + i * 6 + 3, none⟩ = some (.int .i64 xs[i].t) ∧ W.cell? ⟨b, off + i * 6 + 4, none⟩ = some (.int .i64 xs[i].v) ∧ W.cell? ⟨b, off + i * 6 + 5, none⟩ = some (.slice xs[i].A xs[i].cs.length xs[i].cap)) := by
  obtain ⟨b, off, e, hb, z0, z1, z2, z3, z4, z5⟩ := h.at6 hi
  refine ⟨b, off, e, hb, fun W hW => ?_⟩
  have hk : ∀ off, W.cell? ⟨b, off, none⟩ = w.cell? ⟨b, off, none⟩ := fun off => hW.cell (p := ⟨b, off, none⟩) hb
  exact ⟨(hk _).trans z0, (hk _).trans z1, (hk _).trans z2, (hk _).trans z3, (hk _).trans z4, (hk _).trans z5⟩

end Go.Proofs.Ytheimbhnckaonaa
