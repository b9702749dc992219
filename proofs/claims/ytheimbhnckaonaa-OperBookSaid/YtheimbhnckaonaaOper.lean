/- An operator in memory; contracts of Least, isKey, Take, Live. -/
import Derived.Test.YtheimbhnckaonaaMap
set_option linter.unusedVariables false
set_option linter.unusedSimpArgs false
namespace Go.Proofs.Ytheimbhnckaonaa
open Go.RowKit

/-- What an operator holds. -/
structure Op14 where
  vs : List View
  ms : List Int
  live : List Cell
/-- Where it lies: its struct, its marks' struct, the marks, the map of live cells; its views. -/
structure OpB where
  bp : Nat
  bm : Nat
  bl : Nat
  br : Nat
  av : Option Addr
  vcap : Nat

def keyOk (k : ByteArray) : Bool := decide (1 ≤ k.size ∧ k.size ≤ 32)
/-- A cell that an operator may have live. -/
def cellOk (vs : List View) (c : Cell) : Prop := ∃ (i : Nat) (hi : i < vs.length), c.v = i ∧ keyOk c.k = true ∧ -2305843009213693952 ≤ c.s ∧ c.s ≤ 2305843009213693952 ∧ c.s % vs[i].slide = 0

structure IsOper (w : World) (b : OpB) (O : Op14) : Prop where
  obj : w.heap[b.bp]? = some (.cells #[.slice b.av O.vs.length b.vcap, .pointer (some ⟨b.bm, 0, none⟩), .map (some b.br), .func (.func 47) #[.pointer (some ⟨b.bm, 0, none⟩)] #[], .func (.func 48) #[.pointer (some ⟨b.bm, 0, none⟩)] #[]] 94 (0, 0))
  marks : IsMarks w b.bm b.bl O.ms
  views : Sl 3 viewL w b.av O.vs
  vlo : 1 ≤ O.vs.length
  vhi : O.vs.length ≤ 4
  vok : ∀ v ∈ O.vs, v.ok = true
  vne : ∀ g off sp, b.av = some ⟨g, off, sp⟩ → g ≠ b.bl ∧ g ≠ b.br ∧ g < w.heap.size
  live : ∃ m, MapIs cellV w b.br m ∧ (m.map (·.1)).Perm O.live
  rise : Rise O.live
  may : ∀ c ∈ O.live, cellOk O.vs c

/-- The operator stands while its blocks stand. -/
theorem IsOper.keep {w w' : World} {b : OpB} {O : Op14} (h : IsOper w b O) (hs : w.heap.size ≤ w'.heap.size) (h1 : w'.heap[b.bp]? = w.heap[b.bp]?) (h2 : w'.heap[b.bm]? = w.heap[b.bm]?) (h3 : w'.heap[b.bl]? = w.heap[b.bl]?) (h4 : w'.heap[b.br]? = w.heap[b.br]?)
    (h5 : ∀ g off sp, b.av = some ⟨g, off, sp⟩ → w'.heap[g]? = w.heap[g]?) : IsOper w' b O where
  obj := h1.trans h.obj
  marks := h.marks.keep h2 h3
  views := h.views.keep hs fun g off e _ => h5 g off none e
  vlo := h.vlo
  vhi := h.vhi
  vok := h.vok
  vne := fun g off sp e => by have := h.vne g off sp e; exact ⟨this.1, this.2.1, by omega⟩
  live := by obtain ⟨m, hm, hp⟩ := h.live; exact ⟨m, hm.keep h4, hp⟩
  rise := h.rise
  may := h.may
theorem IsOper.lt {w : World} {b : OpB} {O : Op14} (h : IsOper w b O) : b.bp < w.heap.size ∧ b.bm < w.heap.size ∧ b.bl < w.heap.size ∧ b.br < w.heap.size := by
  obtain ⟨m, hm, _⟩ := h.live
  exact ⟨lt_of_block h.obj, h.marks.lt.1, h.marks.lt.2, hm.lt⟩
theorem IsOper.below {w w' : World} {b : OpB} {O : Op14} (h : IsOper w b O) (k : Below w.heap.size w w') : IsOper w' b O := by
  have := h.lt
  exact h.keep k.size (k.block _ (by omega)) (k.block _ (by omega)) (k.block _ (by omega)) (k.block _ (by omega)) (fun g off sp e => k.block _ (h.vne g off sp e).2.2)
theorem IsOper.cells {w : World} {b : OpB} {O : Op14} (h : IsOper w b O) : w.cell? ⟨b.bp, 0, none⟩ = some (.slice b.av O.vs.length b.vcap) ∧ w.cell? ⟨b.bp, 1, none⟩ = some (.pointer (some ⟨b.bm, 0, none⟩)) ∧ w.cell? ⟨b.bp, 2, none⟩ = some (.map (some b.br)) ∧
    w.cell? ⟨b.bp, 3, none⟩ = some (.func (.func 47) #[.pointer (some ⟨b.bm, 0, none⟩)] #[]) ∧ w.cell? ⟨b.bp, 4, none⟩ = some (.func (.func 48) #[.pointer (some ⟨b.bm, 0, none⟩)] #[]) := by
  simp [World.cell?, h.obj]

theorem operLeast_any (b : OpB) (O : Op14) (w : World) (h : IsOper w b O) : Calls Try.prog 23 #[.pointer (some ⟨b.bp, 0, none⟩)] w fun e w' => e = .returned (.int .i64 (leastOf O.ms)) ∧ w = w' := by
  obtain ⟨c0, c1, _⟩ := h.cells
  have hm := fun W => marksLeast_any b.bm b.bl O.ms W
  have Hm := Lib.hid h.marks
  clear h
  go_enter Try.func23, Try.ntmps23
  go_wp2_with (go_at_call 55; refine (hm _ Hm.out).mono ?_; rintro e w' ⟨rfl, rfl⟩)
  go_ret
  exact ⟨rfl, rfl⟩

theorem isKey_any (k : ByteArray) (w : World) : Calls Try.prog 57 #[.string k] w fun e w' => e = .returned (.bool (keyOk k)) ∧ w = w' := by
  unfold keyOk
  by_cases h0 : k.size = 0
  · have h1 : k.toList.isEmpty = true := by
      rw [ByteArray.toList_eq, List.isEmpty_iff_length_eq_zero]; exact h0
    rw [show decide (1 ≤ k.size ∧ k.size ≤ 32) = false from by simp [h0]]
    go_enter Try.func57, Try.ntmps57
    go_wp2
    go_ret
    exact ⟨ret_bool (by simp), rfl⟩
  · have h1 : k.toList.isEmpty = false := by
      rw [Bool.eq_false_iff]; intro h; rw [ByteArray.toList_eq, List.isEmpty_iff_length_eq_zero] at h; exact h0 h
    rw [show decide (1 ≤ k.size ∧ k.size ≤ 32) = decide (k.size ≤ 32) from by congr 1; simp; omega]
    have hc : decide ((k.size : Int) ≤ 32) = decide (k.size ≤ 32) := by congr 1; simp; omega
    go_enter Try.func57, Try.ntmps57
    go_wp2
    go_ret
    exact ⟨ret_bool (by simp), rfl⟩

theorem takeKey_any (b : OpB) (O : Op14) (k : ByteArray) (t : Int) (w : World) (hk : keyOk k = false) :
    Calls Try.prog 29 #[.pointer (some ⟨b.bp, 0, none⟩), .string k, .int .i64 t] w fun e w' => e = .returned (.tuple #[.slice none 0 0, .bool false, .int .i64 21]) ∧ w = w' := by
  have hi := fun W => isKey_any k W
  rw [hk] at hi
  go_enter Try.func29, Try.ntmps29
  go_wp2_with (go_at_call 57; refine (hi _).mono ?_; rintro e w' ⟨rfl, rfl⟩)
  go_ret3
  exact ⟨rfl, rfl⟩

set_option maxHeartbeats 400000 in
theorem takeTime_any (b : OpB) (O : Op14) (k : ByteArray) (t : Int) (w : World) (h : IsOper w b O) (hk : keyOk k = true) (ht : t < -1152921504606846976 ∨ 1152921504606846976 < t) :
    Calls Try.prog 29 #[.pointer (some ⟨b.bp, 0, none⟩), .string k, .int .i64 t] w fun e w' => e = .returned (.tuple #[.slice none 0 0, .bool false, .int .i64 22]) ∧ Below w.heap.size w w' := by
  have hi := fun W => isKey_any k W
  rw [hk] at hi
  obtain ⟨c0, c1, c2, c3, c4⟩ := h.cells
  have hlt := h.lt.1
  have ho := fun W (hb : IsMarks W b.bm b.bl O.ms) (hs : Sl 3 viewL W b.av O.vs) => openTime_any b.bm b.bl O.ms t b.av b.vcap O.vs W hb hs h.vok h.vhi ht
  have Hm := Lib.hid h.marks
  have Hs := Lib.hid h.views
  clear h
  go_enter Try.func29, Try.ntmps29
  go_wp2_with (go_at_call 57; refine (hi _).mono ?_; rintro e w' ⟨rfl, rfl⟩)
  go_region_held3 (fun w' => w'.cell? ⟨b.bp, 0, none⟩ = some (.slice b.av O.vs.length b.vcap) ∧ w'.cell? ⟨b.bp, 3, none⟩ = some (.func (.func 47) #[.pointer (some ⟨b.bm, 0, none⟩)] #[])) (first | assumption | go_keep)
    (first | (go_at_call 47; refine (ho _ Hm.out.drew Hs.out).mono ?_; rintro e w' ⟨rfl, hb⟩; have hk : w'.cell? ⟨b.bp, 0, none⟩ = some (.slice b.av O.vs.length b.vcap) ∧ w'.cell? ⟨b.bp, 3, none⟩ = some (.func (.func 47) #[.pointer (some ⟨b.bm, 0, none⟩)] #[]) := ⟨(hb.cell (p := ⟨b.bp, 0, none⟩) hlt).trans c0, (hb.cell (p := ⟨b.bp, 3, none⟩) hlt).trans c3⟩))
  go_wp2
  go_ret3
  exact ⟨rfl, (Below.refl _ _).drew.trans hb⟩

/-- A cell's key laid. -/
def setK (k : ByteArray) (c : Cell) : Cell := { c with k := k }
theorem flat_setK : ∀ (xs : List Cell) (i : Nat) (h : i < xs.length) (k : ByteArray), (xs.flatMap cellL).set (i * 3 + 1) (.string k) = (xs.set i (setK k xs[i])).flatMap cellL
  | y :: r, 0, _, k => by simp [List.flatMap_cons, setK]
  | y :: r, i + 1, h, k => by
    have ih := flat_setK r i (by simpa using h) k
    rw [List.flatMap_cons, List.set_cons_succ, List.flatMap_cons, List.getElem_cons_succ, ← ih, show (i + 1) * 3 + 1 = (i * 3 + 1) + 3 from by omega]
    simp
theorem Own.setK {B g cap n : Nat} {w : World} {xs : List Cell} (h : Own 51 3 cellL B w (.slice (some ⟨g, 0, none⟩) n cap) xs) (hn : n = xs.length) {i : Nat} (hi : i < xs.length) (k : ByteArray) :
    Own 51 3 cellL B (w.setCell ⟨g, i * 3 + 1, none⟩ (.string k)) (.slice (some ⟨g, 0, none⟩) n cap) (xs.set i (setK k xs[i])) := by
  subst hn
  have h1 := (World.ownsRow.stored h (i * 3 + 1) (.string k)).1
  rw [flat_setK xs i hi k] at h1
  unfold Own
  rw [List.length_set]
  exact h1

theorem step_get {α : Type} {cs : List α} (f : α → α) {j : Nat} (hj : j < cs.length) {h : j < ((cs.take j).map f ++ cs.drop j).length} : ((cs.take j).map f ++ cs.drop j)[j] = cs[j] := by
  have hl1 : ((cs.take j).map f).length = j := by simp; omega
  rw [List.getElem_append_right (by omega), List.getElem_drop]
  congr 1
  omega
theorem step_set {α : Type} {cs : List α} (f : α → α) {j : Nat} (hj : j < cs.length) : ((cs.take j).map f ++ cs.drop j).set j (f cs[j]) = (cs.take (j + 1)).map f ++ cs.drop (j + 1) := by
  have hl1 : ((cs.take j).map f).length = j := by simp; omega
  have hd := List.drop_eq_getElem_cons hj
  rw [List.take_succ_eq_append_getElem hj, List.map_append, List.map_cons, List.map_nil, List.append_assoc]
  generalize f cs[j] = x at *
  rw [List.set_append_right _ _ (by omega), hl1, Nat.sub_self, hd, List.set_cons_zero]
  rfl

set_option maxHeartbeats 1000000 in
theorem take_any (b : OpB) (O : Op14) (k : ByteArray) (t : Int) (w : World) (h : IsOper w b O) (hk : keyOk k = true) (ht : -1152921504606846976 ≤ t) (ht2 : t ≤ 1152921504606846976) :
    Calls Try.prog 29 #[.pointer (some ⟨b.bp, 0, none⟩), .string k, .int .i64 t] w fun e w' => ∃ v, e = .returned (.tuple #[v, .bool (isLate O.vs t (leastOf O.ms)), .int .i64 0]) ∧ Own 51 3 cellL w.heap.size w' v ((openCells O.vs t (leastOf O.ms)).map (setK k)) ∧ Below w.heap.size w w' := by
  have hi := fun W => isKey_any k W
  rw [hk] at hi
  obtain ⟨c0, c1, c2, c3, c4⟩ := h.cells
  have hlt := h.lt.1
  have ho := fun W (hb : IsMarks W b.bm b.bl O.ms) (hs : Sl 3 viewL W b.av O.vs) => openCells_any b.bm b.bl O.ms t b.av b.vcap O.vs W hb hs h.vok h.vhi ht ht2
  have Hm := Lib.hid h.marks
  have Hs := Lib.hid h.views
  have hmax : (openCells O.vs t (leastOf O.ms)).length ≤ 256 := by
    have := openN_le h.vok t (leastOf O.ms) O.vs.length (Nat.le_refl _)
    have := h.vhi
    unfold openCells; omega
  clear h
  generalize openCells O.vs t (leastOf O.ms) = cs at *
  generalize isLate O.vs t (leastOf O.ms) = late at *
  go_enter Try.func29, Try.ntmps29
  go_wp2_with (go_at_call 57; refine (hi _).mono ?_; rintro e w' ⟨rfl, rfl⟩)
  go_region_held3 (fun w' => w'.cell? ⟨b.bp, 0, none⟩ = some (.slice b.av O.vs.length b.vcap) ∧ w'.cell? ⟨b.bp, 3, none⟩ = some (.func (.func 47) #[.pointer (some ⟨b.bm, 0, none⟩)] #[])) (first | assumption | go_keep)
    (first | (go_at_call 47; refine (ho _ Hm.out.drew Hs.out).mono ?_; rintro e w1 ⟨v1, rfl, hown, hb⟩; have hk : w1.cell? ⟨b.bp, 0, none⟩ = some (.slice b.av O.vs.length b.vcap) ∧ w1.cell? ⟨b.bp, 3, none⟩ = some (.func (.func 47) #[.pointer (some ⟨b.bm, 0, none⟩)] #[]) := ⟨(hb.cell (p := ⟨b.bp, 0, none⟩) hlt).trans c0, (hb.cell (p := ⟨b.bp, 3, none⟩) hlt).trans c3⟩))
  obtain ⟨o, cap, rfl, hcap, hsl, hov, hun⟩ := hown.sl fun _ => rfl
  have hb' : Below w.heap.size w w1 := (Below.refl _ _).drew.trans hb
  have hown' : Own 51 3 cellL w.heap.size w1 (.slice o cs.length cap) cs := hown
  have Hown := Lib.hid hown'
  clear hown hown' hb hsl ho hi hk c0 c1 c2 c3 c4
  go_wp2
  go_loopg [12, 35] cs.length (fun g _ i wr => ∃ j : Nat, j + g = cs.length ∧ i = .int .i64 j ∧ Own 51 3 cellL w.heap.size wr (.slice o cs.length cap) ((cs.take j).map (setK k) ++ cs.drop j) ∧ Below w.heap.size w wr)
  case atStart => exact ⟨0, by omega, rfl, by simpa using Hown.out, hb'⟩
  case round =>
    obtain ⟨j, hj, rfl, hownr, hbr⟩ := hrel
    have Hj := Lib.hid hj
    have Hr := Lib.hid hownr
    clear hj hownr
    by_cases hlj : j < cs.length
    · have hlen : ((cs.take j).map (setK k) ++ cs.drop j).length = cs.length := by simp; omega
      obtain ⟨g, rfl, hg1, hg2⟩ := Hr.out.pos (by omega)
      obtain ⟨_, ⟨u1, e1⟩, _, _, f1, _⟩ := Hr.out.room3 (k := j) (fun _ => rfl) (by omega)
      have hset := Own.setK Hr.out hlen.symm (i := j) (by omega) k
      have hnew : ((cs.take j).map (setK k) ++ cs.drop j).set j (setK k (((cs.take j).map (setK k) ++ cs.drop j)[j]'(by omega))) = (cs.take (j + 1)).map (setK k) ++ cs.drop (j + 1) := by
        rw [step_get (setK k) hlj, step_set (setK k) hlj]
      rw [hnew] at hset
      have Hset := Lib.hid hset
      clear hset hnew hlen
      go_wp2
      go_roundg (gk - 1)
      case measure => have := Hj.out; omega
      case rel => exact ⟨j + 1, by have := Hj.out; omega, by go_num, Hset.out, hbr.setCell hg1 _⟩
    · have hj' : j = cs.length := by have := Hj.out; omega
      have hr := Hr.out
      rw [hj', List.take_length, List.drop_length, List.append_nil] at hr
      have Hr2 := Lib.hid hr
      clear hr hj'
      go_wp2
      go_ret3
      exact ⟨_, rfl, Hr2.out, hbr⟩
end Go.Proofs.Ytheimbhnckaonaa
