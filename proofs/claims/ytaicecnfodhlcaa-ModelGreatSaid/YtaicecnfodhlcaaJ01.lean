/- The words that the seat's own texts share: rows of cells in memory, worlds that turned in some blocks alone. -/
import Derived.WalkKit
import Derived.WalkSpells
import Derived.Lib.Hide
import Derived.Deep.QuietTactic
import Derived.BigQuiet
import Derived.KernelRfl
import Derived.Deep.OwnRows
import Derived.Deep.LoopGhost
import Derived.Test.YtaicecnfodhlcaaProg
import Derived.Deep.RegionHeld3
import Derived.RegionTactic
import Derived.BigRegion
import Derived.StillTailTactics
set_option linter.unusedVariables false
set_option linter.unusedSimpArgs false
namespace Go.Proofs.Ytaicecnfodhlcaa
open Go.RowKit

/-- An api.Cell. -/
structure Cell where
  v : Int
  k : ByteArray
  s : Int
  deriving DecidableEq
instance : Inhabited Cell := ⟨⟨0, ByteArray.empty, 0⟩⟩
abbrev cellL (c : Cell) : List Value := [.int .i64 c.v, .string c.k, .int .i64 c.s]
/-- An api.View. -/
structure View where
  size : Int
  slide : Int
  late : Int
  deriving DecidableEq
instance : Inhabited View := ⟨⟨0, 0, 0⟩⟩
abbrev viewL (v : View) : List Value := [.int .i64 v.size, .int .i64 v.slide, .int .i64 v.late]
abbrev i64L (n : Int) : List Value := [.int .i64 n]

/-- w' came of w; of the blocks that lay in w none but those of l has turned. -/
structure Chg (l : List Nat) (w w' : World) : Prop where
  os : w'.os = w.os
  tape : w'.tape = w.tape
  output : w'.output = w.output
  size : w.heap.size ≤ w'.heap.size
  block : ∀ k, k < w.heap.size → k ∉ l → w'.heap[k]? = w.heap[k]?

theorem Chg.refl (l : List Nat) (w : World) : Chg l w w := ⟨rfl, rfl, rfl, Nat.le_refl _, fun _ _ _ => rfl⟩
theorem Chg.trans {l : List Nat} {a b c : World} (h : Chg l a b) (k : Chg l b c) : Chg l a c :=
  ⟨k.os.trans h.os, k.tape.trans h.tape, k.output.trans h.output, Nat.le_trans h.size k.size, fun i hi hl => (k.block i (Nat.lt_of_lt_of_le hi h.size) hl).trans (h.block i hi hl)⟩
theorem Chg.mono {l l' : List Nat} {a b : World} (h : Chg l a b) (hl : ∀ x ∈ l, x ∈ l') : Chg l' a b :=
  ⟨h.os, h.tape, h.output, h.size, fun i hi hn => h.block i hi (fun hx => hn (hl i hx))⟩
theorem Chg.of_below {a b : World} (h : Below a.heap.size a b) : Chg [] a b := ⟨h.os, h.tape, h.output, h.size, fun i hi _ => h.block i hi⟩
theorem Chg.of_grown {a b : World} {r : Nat} (h : a.grownBy b (some r)) : Chg [r] a b := ⟨h.os, h.tape, h.output, h.size, fun i hi hn => h.block i hi (fun e => hn (by cases e; simp))⟩
/-- Blocks that are all the call's own: below them nothing turned. -/
theorem Chg.below {l : List Nat} {a b : World} (h : Chg l a b) {B : Nat} (hB : B ≤ a.heap.size) (hl : ∀ x ∈ l, B ≤ x) : Below B a b :=
  ⟨h.os, h.tape, h.output, h.size, fun i hi => h.block i (by omega) (fun hx => by have := hl i hx; omega)⟩
theorem Chg.nil_below {a b : World} (h : Chg [] a b) : Below a.heap.size a b := h.below (Nat.le_refl _) (by simp)
theorem Below.chain {B : Nat} {a b c : World} (h : Below B a b) {l : List Nat} (k : Chg l b c) (hB : B ≤ b.heap.size) (hl : ∀ x ∈ l, B ≤ x) : Below B a c := h.trans (k.below hB hl)
theorem Below.drewN {B : Nat} {a w : World} (h : Below B a w) (n : Nat) : Below B a (w.drewN n) := h.trans ⟨rfl, rfl, rfl, Nat.le_refl _, fun _ _ => rfl⟩
/-- Behind a call that turned nothing. -/
theorem Below.pure {B : Nat} {a b c : World} (h : Below B a b) (k : Below b.heap.size b c) (hB : B ≤ b.heap.size) : Below B a c := h.trans (k.mono hB)

/-- THE SLICE AT a (of elements of sz cells each, told by enc) HOLDS xs. -/
def Sl {α : Type} (sz : Nat) (enc : α → List Value) (w : World) (a : Option Addr) (xs : List α) : Prop :=
  ∀ i (h : i < xs.length), ∃ b off, a = some ⟨b, off, none⟩ ∧ b < w.heap.size ∧ ∀ j u, (enc xs[i])[j]? = some u → w.cell? ⟨b, off + i * sz + j, none⟩ = some u

theorem Sl.nil {α : Type} (sz : Nat) (enc : α → List Value) (w : World) (a : Option Addr) : Sl sz enc w a ([] : List α) := fun i h => absurd h (Nat.not_lt_zero _)

/-- It stays while its block stays. -/
theorem Sl.keep {α : Type} {sz : Nat} {enc : α → List Value} {w w' : World} {a : Option Addr} {xs : List α} (h : Sl sz enc w a xs) (hs : w.heap.size ≤ w'.heap.size)
    (hb : ∀ b off, a = some ⟨b, off, none⟩ → b < w.heap.size → w'.heap[b]? = w.heap[b]?) : Sl sz enc w' a xs := by
  intro i hi
  obtain ⟨b, off, rfl, hlt, hc⟩ := h i hi
  refine ⟨b, off, rfl, by omega, fun j u hu => ?_⟩
  rw [World.cell?_of_block (w := w) (hb b off rfl hlt)]
  exact hc j u hu
theorem Sl.chg {α : Type} {sz : Nat} {enc : α → List Value} {w w' : World} {a : Option Addr} {xs : List α} {l : List Nat} (h : Sl sz enc w a xs) (k : Chg l w w')
    (hb : ∀ b off, a = some ⟨b, off, none⟩ → b ∉ l) : Sl sz enc w' a xs := h.keep k.size fun b off e hlt => k.block b hlt (hb b off e)
theorem Sl.below {α : Type} {sz : Nat} {enc : α → List Value} {w w' : World} {a : Option Addr} {xs : List α} (h : Sl sz enc w a xs) (k : Below w.heap.size w w') : Sl sz enc w' a xs :=
  h.keep k.size fun b off e hlt => k.block b hlt
/-- A slice below block number B. -/
def Under (B : Nat) (a : Option Addr) : Prop := ∀ b off sp, a = some ⟨b, off, sp⟩ → b < B
def Over (B : Nat) (a : Option Addr) : Prop := ∀ b off sp, a = some ⟨b, off, sp⟩ → B ≤ b
theorem Under.mono {B B' : Nat} {a : Option Addr} (h : Under B a) (hB : B ≤ B') : Under B' a := fun b off sp e => Nat.lt_of_lt_of_le (h b off sp e) hB
theorem Over.mono {B B' : Nat} {a : Option Addr} (h : Over B a) (hB : B' ≤ B) : Over B' a := fun b off sp e => Nat.le_trans hB (h b off sp e)
theorem Sl.belowB {α : Type} {sz : Nat} {enc : α → List Value} {w w' : World} {a : Option Addr} {xs : List α} {B : Nat} (h : Sl sz enc w a xs) (k : Below B w w') (hu : Under B a) : Sl sz enc w' a xs :=
  h.keep k.size fun b off e _ => k.block b (hu b off none e)

/-- One element, where the slice is not empty. -/
theorem Sl.at1 {α : Type} {sz : Nat} {enc : α → List Value} {w : World} {a : Option Addr} {xs : List α} (h : Sl sz enc w a xs) {i : Nat} (hi : i < xs.length) {u : Value} (he : enc xs[i] = [u]) :
    ∃ b off, a = some ⟨b, off, none⟩ ∧ b < w.heap.size ∧ w.cell? ⟨b, off + i * sz, none⟩ = some u := by
  obtain ⟨b, off, rfl, hlt, hc⟩ := h i hi
  exact ⟨b, off, rfl, hlt, hc 0 u (by rw [he]; rfl)⟩
theorem Sl.at3 {α : Type} {sz : Nat} {enc : α → List Value} {w : World} {a : Option Addr} {xs : List α} (h : Sl sz enc w a xs) {i : Nat} (hi : i < xs.length) {u v x : Value} (he : enc xs[i] = [u, v, x]) :
    ∃ b off, a = some ⟨b, off, none⟩ ∧ b < w.heap.size ∧ w.cell? ⟨b, off + i * sz, none⟩ = some u ∧ w.cell? ⟨b, off + i * sz + 1, none⟩ = some v ∧ w.cell? ⟨b, off + i * sz + 2, none⟩ = some x := by
  obtain ⟨b, off, rfl, hlt, hc⟩ := h i hi
  exact ⟨b, off, rfl, hlt, hc 0 u (by rw [he]; rfl), hc 1 v (by rw [he]; rfl), hc 2 x (by rw [he]; rfl)⟩

/-! ### memory of the call's own -/
theorem flat_length {α : Type} {sz : Nat} {enc : α → List Value} (h : ∀ x, (enc x).length = sz) : ∀ xs : List α, (xs.flatMap enc).length = xs.length * sz
  | [] => by simp
  | x :: r => by simp [List.flatMap_cons, flat_length h r, h x, Nat.add_mul, Nat.add_comm]
theorem flat_get {α : Type} {sz : Nat} {enc : α → List Value} (h : ∀ x, (enc x).length = sz) : ∀ (xs : List α) (i : Nat) (hi : i < xs.length) (j : Nat), j < sz → (xs.flatMap enc)[i * sz + j]? = (enc xs[i])[j]?
  | x :: r, 0, _, j, hj => by
    rw [List.flatMap_cons, List.getElem?_append_left (by rw [h x]; omega)]
    simp
  | x :: r, i + 1, hi, j, hj => by
    rw [List.flatMap_cons, List.getElem?_append_right (by rw [h x, Nat.add_mul]; omega), h x, show (i + 1) * sz + j - sz = i * sz + j from by rw [Nat.add_mul]; omega]
    exact flat_get h r i (by simpa using hi) j hj

/-- v IS A SLICE OF MEMORY FROM BLOCK B ON THAT HOLDS xs (elements of type E, sz cells each). -/
def Own {α : Type} (E sz : Nat) (enc : α → List Value) (B : Nat) (w : World) (v : Value) (xs : List α) : Prop := w.ownsRow B E sz v xs.length (xs.flatMap enc)

theorem Own.sl {α : Type} {E sz B : Nat} {enc : α → List Value} {w : World} {v : Value} {xs : List α} (h : Own E sz enc B w v xs) (hz : ∀ x, (enc x).length = sz) :
    ∃ o cap, v = .slice o xs.length cap ∧ xs.length ≤ cap ∧ Sl sz enc w o xs ∧ Over B o ∧ Under w.heap.size o := by
  obtain ⟨hl, h⟩ := h
  rcases h with ⟨rfl, h0⟩ | ⟨g, cap, cur, rfl, hB, hb, hcap, hmax, hcs, htake⟩
  · obtain rfl : xs = [] := List.eq_nil_of_length_eq_zero h0
    exact ⟨none, 0, rfl, Nat.le_refl _, Sl.nil _ _ _ _, (fun _ _ _ e => by cases e), (fun _ _ _ e => by cases e)⟩
  · have hg : g < w.heap.size := lt_of_block hb
    refine ⟨some ⟨g, 0, none⟩, cap, rfl, hcap, fun i hi => ⟨g, 0, rfl, hg, fun j u hu => ?_⟩, (fun b off sp e => by cases e; exact hB), (fun b off sp e => by cases e; exact hg)⟩
    have hj : j < sz := by
      have := (List.getElem?_eq_some_iff.1 hu).1
      rw [hz] at this; exact this
    have e1 := flat_get hz xs i hi j hj
    rw [hu, ← htake, List.getElem?_take] at e1
    split at e1
    · simp only [World.cell?, hb, Nat.zero_add]
      simpa using e1
    · cases e1

theorem Own.nil {α : Type} (E sz : Nat) (enc : α → List Value) (B : Nat) (w : World) : Own E sz enc B w (.slice none 0 0) ([] : List α) := World.ownsRow_nil _ _ _ _
theorem Own.mono {α : Type} {E sz B B' : Nat} {enc : α → List Value} {w : World} {v : Value} {xs : List α} (h : Own E sz enc B w v xs) (hB : B' ≤ B) : Own E sz enc B' w v xs := by
  obtain ⟨hl, h⟩ := h
  refine ⟨hl, ?_⟩
  rcases h with h | ⟨g, cap, cur, hv, hg, r⟩
  · exact .inl h
  · exact .inr ⟨g, cap, cur, hv, Nat.le_trans hB hg, r⟩
/-- It stays while its block stays. -/
theorem Own.keep {α : Type} {E sz B : Nat} {enc : α → List Value} {w w' : World} {v : Value} {xs : List α} (h : Own E sz enc B w v xs) (hk : ∀ g, v.ownBlock = some g → g < w.heap.size → w'.heap[g]? = w.heap[g]?) : Own E sz enc B w' v xs := by
  obtain ⟨hl, h⟩ := h
  refine ⟨hl, ?_⟩
  rcases h with h | ⟨g, cap, cur, rfl, hg, hb, r⟩
  · exact .inl h
  · exact .inr ⟨g, cap, cur, rfl, hg, (hk g rfl (lt_of_block hb)).trans hb, r⟩
theorem Own.chg {α : Type} {E sz B : Nat} {enc : α → List Value} {w w' : World} {v : Value} {xs : List α} {l : List Nat} (h : Own E sz enc B w v xs) (k : Chg l w w') (hl : ∀ g, v.ownBlock = some g → g ∉ l) : Own E sz enc B w' v xs :=
  h.keep fun g hg hlt => k.block g hlt (hl g hg)
theorem Own.below {α : Type} {E sz B : Nat} {enc : α → List Value} {w w' : World} {v : Value} {xs : List α} (h : Own E sz enc B w v xs) (k : Below w.heap.size w w') : Own E sz enc B w' v xs :=
  h.keep fun g _ hlt => k.block g hlt
theorem Own.ge {α : Type} {E sz B : Nat} {enc : α → List Value} {w : World} {v : Value} {xs : List α} (h : Own E sz enc B w v xs) {g : Nat} (hg : v.ownBlock = some g) : B ≤ g ∧ g < w.heap.size := World.ownsRow.lt h g hg

/-- A row of one-cell elements that is full. -/
theorem Own.of_row {α : Type} {E B b n : Nat} {enc : α → List Value} {w : World} {f : Nat → Value} {xs : List α} (h : w.rowIs b E n f) (hB : B ≤ b) (hn : n ≤ maxLen) (hl : xs.length = n) (hx : ∀ i (hi : i < xs.length), enc xs[i] = [f i]) (hz : ∀ x, (enc x).length = 1) :
    Own E 1 enc B w (.slice (some ⟨b, 0, none⟩) xs.length n) xs := by
  obtain ⟨c, hb, hcn, hc⟩ := h
  refine ⟨flat_length hz xs, .inr ⟨b, n, c, rfl, hB, hb, by omega, hn, by omega, ?_⟩⟩
  apply List.ext_getElem?
  intro i
  rw [List.getElem?_take]
  by_cases hi : i < xs.length
  · have e1 := flat_get hz xs i hi 0 (by omega)
    rw [hx i hi] at e1
    simp at e1
    rw [if_pos (by omega), e1]
    simpa using hc i (by omega)
  · rw [if_neg (by omega), List.getElem?_eq_none (by rw [flat_length hz]; omega)]

/-- What the laws ask of a slice type t over elements e of sz cells and 'bytes' bytes. -/
structure SlT (P : Program) (t e sz bytes : Nat) : Prop where
  und : P.underlying t = some (.slice e)
  pos : 0 < sz
  info : ∃ i z, P.info? e = some i ∧ i.zero = some z ∧ i.size = sz ∧ i.bytes = bytes ∧ z.cells.size = sz
theorem SlT.mk' {P : Program} {t e sz bytes : Nat} {z : Value} (hu : P.underlying t = some (.slice e)) (hp : 0 < sz) (hi : (P.info? e).map (fun i => (i.zero, i.size, i.bytes)) = some (some z, sz, bytes)) (hz : z.cells.size = sz) : SlT P t e sz bytes := by
  obtain ⟨i, hi1, hzz⟩ := Option.map_eq_some_iff.1 hi
  simp only [Prod.mk.injEq] at hzz
  exact ⟨hu, hp, i, z, hi1, hzz.1, hzz.2.1, hzz.2.2, hz⟩

/-- Each cell of an encoding is one cell. -/
def Cells1 {α : Type} (enc : α → List Value) : Prop := ∀ x, ∀ u ∈ enc x, u.oneCell' = true
theorem cells1_i64 : Cells1 i64L := fun x u hu => by simp at hu; subst hu; rfl
theorem cells1_cell : Cells1 cellL := fun x u hu => by simp at hu; rcases hu with rfl | rfl | rfl <;> rfl
theorem cells1_view : Cells1 viewL := fun x u hu => by simp at hu; rcases hu with rfl | rfl | rfl <;> rfl

theorem Sl.flat {α : Type} {sz : Nat} {enc : α → List Value} {w : World} {b off : Nat} {xs : List α} (hz : ∀ x, (enc x).length = sz) (h : Sl sz enc w (some ⟨b, off, none⟩) xs) :
    ∀ j u, (xs.flatMap enc)[j]? = some u → w.cell? ((⟨b, off, none⟩ : Addr).add j) = some u := by
  intro j u hu
  have hlt := (List.getElem?_eq_some_iff.1 hu).1
  rw [flat_length hz] at hlt
  have hsz : 0 < sz := by rcases Nat.eq_zero_or_pos sz with rfl | h0; simp at hlt; exact h0
  have hi : j / sz < xs.length := Nat.div_lt_of_lt_mul (by rw [Nat.mul_comm]; exact hlt)
  have hj : j / sz * sz + j % sz = j := Nat.div_add_mod' j sz
  have e1 := flat_get hz xs (j / sz) hi (j % sz) (Nat.mod_lt _ hsz)
  rw [hj, hu] at e1
  obtain ⟨b', off', e, _, hc⟩ := h (j / sz) hi
  cases e
  have := hc (j % sz) u e1.symm
  rw [Nat.add_assoc, hj] at this
  unfold Addr.add
  split
  · rename_i h0; subst h0; simpa using this
  · exact this

theorem Sl.drop {α : Type} {sz : Nat} {enc : α → List Value} {w : World} {b off : Nat} {xs : List α} (h : Sl sz enc w (some ⟨b, off, none⟩) xs) (j : Nat) : Sl sz enc w (some ⟨b, off + j * sz, none⟩) (xs.drop j) := by
  intro i hi
  simp at hi
  obtain ⟨b', off', e, hlt, hc⟩ := h (j + i) (by omega)
  cases e
  refine ⟨b, _, rfl, hlt, fun q u hu => ?_⟩
  rw [List.getElem_drop] at hu
  have := hc q u hu
  rw [Nat.add_mul] at this
  rw [Nat.add_assoc off]
  exact this
theorem Sl.take {α : Type} {sz : Nat} {enc : α → List Value} {w : World} {a : Option Addr} {xs : List α} (h : Sl sz enc w a xs) (j : Nat) : Sl sz enc w a (xs.take j) := by
  intro i hi
  simp at hi
  obtain ⟨b, off, e, hlt, hc⟩ := h i (by omega)
  exact ⟨b, off, e, hlt, fun q u hu => hc q u (by rw [List.getElem_take] at hu; exact hu)⟩

/-- THE BUILTIN append ONTO A SLICE OF THE CALL's OWN. -/
theorem wpList_app {α : Type} {P : Program} {ops : Array Oper} {Q : Exit → Act → World → Prop} {a : Act} {w : World} {rest : List Oper} {o : Oper} {t e sz bytes : Nat} (K : SlT P t e sz bytes)
    (hgd : o.guard = none) (s x : Operand) (ho : o.op = .call { callee := .builtin .append, args := #[s, x], argTypes := #[t, t] })
    (enc : α → List Value) (hz : ∀ x, (enc x).length = sz) (h1 : Cells1 enc) (B : Nat) (v : Value) (xs : List α) (hs : a.eval s = v) (hown : Own e sz enc B w v xs)
    (A : Option Addr) (m c : Nat) (ys : List α) (hx : a.eval x = .slice A m c) (hm : m = ys.length) (hsl : Sl sz enc w A ys) (hmax : xs.length + ys.length ≤ 1000000000) (hby : bytes ≤ 1024) (hB : B ≤ w.heap.size)
    (h : ∀ v' w', Own e sz enc B w' v' (xs ++ ys) → w.grownBy w' v.ownBlock → (v' = .slice none 0 0 ↔ v = .slice none 0 0 ∧ ys = []) → wpList P ops Q rest (a.put o.dst v') w') : wpList P ops Q (o :: rest) a w := by
  subst hm
  obtain ⟨ht, hsz, i, z, hi, hz0, hsize, hbytes, hzs⟩ := K
  have hb : (xs.length + ys.length) * bytes ≤ 140737488355328 := Nat.le_trans (Nat.mul_le_mul hmax hby) (by omega)
  have hm : xs.length + ys.length ≤ maxLen := by unfold maxLen; omega
  cases A with
  | some ad =>
    by_cases hy : ys = []
    · subst hy
      refine wpList_append_own w hgd s x t ho B e i z sz bytes ht hi hz0 hsize hbytes hzs hsz v xs.length (xs.flatMap enc) hs hown ad 0 c [] hx (by simp) (fun j u hu => by simp at hu) (fun u hu => by simp at hu) (by simpa using hm) (by simpa using hb) hB ?_
      intro v' w' h2 h3 h4
      refine h v' w' ?_ h3 (by simpa using h4)
      unfold Own; simpa using h2
    · have h0 : 0 < ys.length := List.length_pos_iff.2 hy
      obtain ⟨b, off, e1, _, _⟩ := hsl 0 h0
      cases e1
      refine wpList_append_own w hgd s x t ho B e i z sz bytes ht hi hz0 hsize hbytes hzs hsz v xs.length (xs.flatMap enc) hs hown ⟨b, off, none⟩ ys.length c (ys.flatMap enc) hx (flat_length hz ys) (hsl.flat hz) (fun u hu => by obtain ⟨y, _, hy⟩ := List.mem_flatMap.1 hu; exact h1 y u hy) hm hb hB ?_
      intro v' w' h2 h3 h4
      refine h v' w' ?_ h3 (by rw [h4]; simp [hy])
      unfold Own; simpa using h2
  | none =>
    have hy : ys = [] := by
      rcases ys with _ | ⟨y, r⟩
      · rfl
      · obtain ⟨b, off, e1, _⟩ := hsl 0 (by simp); cases e1
    subst hy
    refine wpList_plain hgd fun K' hK => ?_
    have hrun : (Builtin.append_ #[t, t] o.type #[v, .slice none 0 c]).run P w = .ok v w := by
      rcases hown.2 with ⟨rfl, _⟩ | ⟨g, cap, cur, rfl, hg, hb2, hcap, _⟩
      · simp [Builtin.append_, run_underlying ht, sizeOf, typeInfo, hi, Builtin.lenOf, Builtin.firstCells]
      · simp [Builtin.append_, run_underlying ht, sizeOf, typeInfo, hi, Builtin.lenOf, Builtin.firstCells, hcap, storeCells]
    unfold Oper.wp execOp
    simp only [ho, resolve, invoke, builtin, Sem.run_bind, Sem.run_pure, Result.andThen_ok, List.map_toArray, List.map_cons, List.map_nil, hs, hx, List.length_nil, hrun]
    refine hK _ _ (h v w ?_ ⟨rfl, rfl, rfl, Nat.le_refl _, fun _ _ _ => rfl⟩ (by simp))
    simpa using hown

/-! ### rows of structs: made, written -/
theorem add_none (b off j : Nat) : (⟨b, off, none⟩ : Addr).add j = ⟨b, off + j, none⟩ := by
  unfold Addr.add
  split
  · rename_i h; subst h; rfl
  · rfl

/-- SlT, and the zero value's cells. -/
structure SlZ (P : Program) (t e sz bytes : Nat) (zc : List Value) : Prop where
  und : P.underlying t = some (.slice e)
  pos : 0 < sz
  zlen : zc.length = sz
  info : ∃ i z, P.info? e = some i ∧ i.zero = some z ∧ i.size = sz ∧ i.bytes = bytes ∧ z.cells.toList = zc
theorem SlZ.mk' {P : Program} {t e sz bytes : Nat} {z : Value} {zc : List Value} (hu : P.underlying t = some (.slice e)) (hp : 0 < sz) (hi : (P.info? e).map (fun i => (i.zero, i.size, i.bytes)) = some (some z, sz, bytes)) (hz : z.cells.toList = zc) (hl : zc.length = sz) : SlZ P t e sz bytes zc := by
  obtain ⟨i, hi1, hzz⟩ := Option.map_eq_some_iff.1 hi
  simp only [Prod.mk.injEq] at hzz
  exact ⟨hu, hp, hl, i, z, hi1, hzz.1, hzz.2.1, hzz.2.2, hz⟩
theorem SlZ.t {P : Program} {t e sz bytes : Nat} {zc : List Value} (h : SlZ P t e sz bytes zc) : SlT P t e sz bytes := by
  obtain ⟨hu, hp, hl, i, z, h1, h2, h3, h4, h5⟩ := h
  exact ⟨hu, hp, i, z, h1, h2, h3, h4, by rw [← Array.length_toList, h5, hl]⟩

theorem flat_replicate {α : Type} (enc : α → List Value) (d : α) : ∀ n, (List.replicate n d).flatMap enc = (List.replicate n (enc d)).flatten
  | 0 => rfl
  | n + 1 => by simp [List.replicate_succ, List.flatMap_cons, flat_replicate enc d n]

theorem madeCells_flat {α : Type} {enc : α → List Value} {d : α} {z : Array Value} {sz : Nat} (hz : z.toList = enc d) (hs : ∀ x, (enc x).length = sz) (hp : 0 < sz) (n : Nat) : (madeCells z (n * sz)).toList = (List.replicate n d).flatMap enc := by
  have hzs : z.size = sz := by rw [← Array.length_toList, hz, hs]
  apply List.ext_getElem?
  intro j
  by_cases hj : j < n * sz
  · have hi : j / sz < (List.replicate n d).length := by simp; exact Nat.div_lt_of_lt_mul (by rw [Nat.mul_comm]; exact hj)
    have e1 := flat_get hs (List.replicate n d) (j / sz) hi (j % sz) (Nat.mod_lt _ hp)
    rw [Nat.div_add_mod' j sz] at e1
    rw [e1, List.getElem_replicate, ← hz]
    have hm : j % sz < z.size := by rw [hzs]; exact Nat.mod_lt _ hp
    rw [show (madeCells z (n * sz)).toList[j]? = some z[j % sz]! from by simp [madeCells, hj, hzs]]
    rw [getElem!_pos z _ hm, Array.getElem?_toList, Array.getElem?_eq_getElem hm]
  · rw [List.getElem?_eq_none (by simp [madeCells]; omega), List.getElem?_eq_none (by rw [flat_length hs]; simp; omega)]

/-- make([]T, n). -/
theorem make_own {α : Type} {P : Program} {t e sz bytes : Nat} {enc : α → List Value} {d : α} (K : SlZ P t e sz bytes (enc d)) (hs : ∀ x, (enc x).length = sz) (n : Nat) (hn : n ≤ 1000000000) (hby : bytes ≤ 1024) (w : World) :
    ∃ o, (Instr.makeSlice t (.int .i64 (n : Int)) (.int .i64 (n : Int))).run P w = .ok (.slice (some ⟨w.heap.size, 0, none⟩) n n) (w.alloc o) ∧ Own e sz enc w.heap.size (w.alloc o) (.slice (some ⟨w.heap.size, 0, none⟩) n n) (List.replicate n d) := by
  obtain ⟨hu, hp, hl, i, z, h1, h2, h3, h4, h5⟩ := K
  have hb : i.bytes * n ≤ 1024 * 1000000000 := Nat.mul_le_mul (by omega) hn
  have hr := run_make (P := P) w t e i z hu h1 h2 .i64 .i64 n n (by omega) (Int.le_refl _) (by rw [← Int.natCast_mul]; omega) (by omega)
  simp only [Int.toNat_natCast, h3] at hr
  refine ⟨_, hr, ?_⟩
  refine ⟨flat_length hs _, .inr ⟨w.heap.size, n, madeCells z.cells (n * sz), by simp, Nat.le_refl _, ?_, by simp, by unfold maxLen; omega, by simp [madeCells], ?_⟩⟩
  · show (w.heap.push _)[w.heap.size]? = _
    simp
  · rw [madeCells_flat h5 hs hp]
    rw [List.length_replicate]
    exact List.take_of_length_le (by rw [flat_length hs]; simp)

theorem flat_set3 {α : Type} {enc : α → List Value} (hz : ∀ x, (enc x).length = 3) : ∀ (xs : List α) (k : Nat), k < xs.length → ∀ (c : α) (u0 u1 u2 : Value), enc c = [u0, u1, u2] →
    (((xs.flatMap enc).set (k * 3) u0).set (k * 3 + 1) u1).set (k * 3 + 2) u2 = (xs.set k c).flatMap enc
  | y :: r, 0, _, c, u0, u1, u2, he => by
    have h := hz y
    match hy : enc y, h with
    | [a, b, d], _ => simp [List.flatMap_cons, hy, he]
  | y :: r, k + 1, hk, c, u0, u1, u2, he => by
    have h := hz y
    match hy : enc y, h with
    | [a, b, d], _ =>
      have ih := flat_set3 hz r k (by simpa using hk) c u0 u1 u2 he
      rw [List.flatMap_cons, hy, List.set_cons_succ, List.flatMap_cons, hy, ← ih]
      rw [show (k + 1) * 3 = k * 3 + 3 from by omega, show k * 3 + 3 + 1 = (k * 3 + 1) + 3 from by omega, show k * 3 + 3 + 2 = (k * 3 + 2) + 3 from by omega]
      simp

theorem Own.set3 {α : Type} {E B g cap n : Nat} {enc : α → List Value} {w : World} {xs : List α} (hz : ∀ x, (enc x).length = 3) (h : Own E 3 enc B w (.slice (some ⟨g, 0, none⟩) n cap) xs) (hn : n = xs.length) {k : Nat} (hk : k < xs.length) {c : α} {u0 u1 u2 : Value} (he : enc c = [u0, u1, u2]) :
    Own E 3 enc B (((w.setCell ⟨g, k * 3, none⟩ u0).setCell ⟨g, k * 3 + 1, none⟩ u1).setCell ⟨g, k * 3 + 2, none⟩ u2) (.slice (some ⟨g, 0, none⟩) n cap) (xs.set k c) := by
  subst hn
  have h1 := (World.ownsRow.stored h (k * 3) u0).1
  have h2 := (World.ownsRow.stored h1 (k * 3 + 1) u1).1
  have h3 := (World.ownsRow.stored h2 (k * 3 + 2) u2).1
  rw [flat_set3 hz xs k hk c u0 u1 u2 he] at h3
  unfold Own
  rw [List.length_set]
  exact h3
theorem Own.frozen {α : Type} {E sz B g cap n : Nat} {enc : α → List Value} {w : World} {xs : List α} (h : Own E sz enc B w (.slice (some ⟨g, 0, none⟩) n cap) xs) (j : Nat) : w.frozen? ⟨g, j, none⟩ = false := by
  rcases h.2 with ⟨h', _⟩ | ⟨g', cap', cur, h', hb, hg, _⟩
  · cases h'
  · cases h'; simp [World.frozen?, hg]
theorem Own.at3 {α : Type} {E B g cap n : Nat} {enc : α → List Value} {w : World} {xs : List α} (hz : ∀ x, (enc x).length = 3) (h : Own E 3 enc B w (.slice (some ⟨g, 0, none⟩) n cap) xs) {k : Nat} (hk : k < xs.length) {u0 u1 u2 : Value} (he : enc xs[k] = [u0, u1, u2]) :
    w.cell? ⟨g, k * 3, none⟩ = some u0 ∧ w.cell? ⟨g, k * 3 + 1, none⟩ = some u1 ∧ w.cell? ⟨g, k * 3 + 2, none⟩ = some u2 := by
  obtain ⟨o, cap', e, _, hsl, _⟩ := h.sl hz
  cases e
  obtain ⟨b, off, e, _, h1, h2, h3⟩ := hsl.at3 hk he
  cases e
  simp only [Nat.zero_add] at h1 h2 h3
  exact ⟨h1, h2, h3⟩
theorem Own.sl0 {α : Type} {E sz B n cap : Nat} {a : Option Addr} {enc : α → List Value} {w : World} {xs : List α} (h : Own E sz enc B w (.slice a n cap) xs) (hz : ∀ x, (enc x).length = sz) : Sl sz enc w a xs := by
  obtain ⟨o, c, e, _, h6, _⟩ := h.sl hz
  have h7 := congrArg (fun v => match v with | .slice a _ _ => a | _ => none) e
  simp only at h7
  rw [h7]; exact h6
theorem Own.pos {α : Type} {E sz B n cap : Nat} {o : Option Addr} {enc : α → List Value} {w : World} {xs : List α} (h : Own E sz enc B w (.slice o n cap) xs) (h0 : 0 < xs.length) : ∃ g, o = some ⟨g, 0, none⟩ ∧ B ≤ g ∧ g < w.heap.size := by
  rcases h.2 with ⟨h', e⟩ | ⟨g, cap', cur, h', hB, hb, _⟩
  · omega
  · cases h'; exact ⟨g, rfl, hB, lt_of_block hb⟩
theorem Own.alloc {α : Type} {E sz B : Nat} {enc : α → List Value} {w : World} {v : Value} {xs : List α} (h : Own E sz enc B w v xs) (o : Obj) : Own E sz enc B (w.alloc o) v xs :=
  h.keep fun g _ hlt => Below.heap_alloc _ _ _ hlt
theorem Own.grown {α : Type} {E sz B : Nat} {enc : α → List Value} {w w' : World} {v : Value} {xs : List α} {r : Nat} (h : Own E sz enc B w v xs) (k : w.grownBy w' (some r)) (hr : r < B) : Own E sz enc B w' v xs :=
  h.keep fun g hg hlt => k.block g hlt (fun e => by cases e; have := (h.ge hg).1; omega)
theorem Below.grownO {B : Nat} {a b c : World} (h : Below B a b) {v : Value} (hg : b.grownBy c v.ownBlock) (hB : B ≤ b.heap.size) (hv : ∀ g, v.ownBlock = some g → B ≤ g) : Below B a c := h.grown hg hB hv
/-- What a store of an element wants. -/
theorem Own.room3 {α : Type} {E B g cap n : Nat} {enc : α → List Value} {w : World} {xs : List α} (hz : ∀ x, (enc x).length = 3) (h : Own E 3 enc B w (.slice (some ⟨g, 0, none⟩) n cap) xs) {k : Nat} (hk : k < xs.length) :
    (∃ u, w.cell? ⟨g, k * 3, none⟩ = some u) ∧ (∃ u, w.cell? ⟨g, k * 3 + 1, none⟩ = some u) ∧ (∃ u, w.cell? ⟨g, k * 3 + 2, none⟩ = some u) ∧ w.frozen? ⟨g, k * 3, none⟩ = false ∧ w.frozen? ⟨g, k * 3 + 1, none⟩ = false ∧ w.frozen? ⟨g, k * 3 + 2, none⟩ = false := by
  have hy := hz xs[k]
  match he : enc xs[k], hy with
  | [a, b, c], _ =>
    obtain ⟨h0, h1, h2⟩ := h.at3 hz hk he
    exact ⟨⟨_, h0⟩, ⟨_, h1⟩, ⟨_, h2⟩, h.frozen _, h.frozen _, h.frozen _⟩
theorem sl_new {α : Type} {sz : Nat} {enc : α → List Value} (c : α) (w : World) (t : TypeId) {cs : Array Value} (h : cs.toList = enc c) : Sl sz enc (w.alloc (.cells cs t)) (some ⟨w.heap.size, 0, none⟩) [c] := by
  intro i hi
  simp at hi
  subst hi
  refine ⟨w.heap.size, 0, rfl, by simp, fun j u hu => ?_⟩
  have hb : (w.alloc (.cells cs t)).heap[w.heap.size]? = some (.cells cs t) := by
    show (w.heap.push _)[w.heap.size]? = _
    simp
  simp only [World.cell?, hb, Nat.zero_mul, Nat.zero_add]
  simp only [List.getElem_singleton] at hu
  rw [← h] at hu
  simpa using hu
theorem blk_at {w : World} {o : Obj} {n : Nat} (h : n = w.heap.size) : (w.alloc o).heap[n]? = some o := by
  subst h
  show (w.heap.push o)[w.heap.size]? = some o
  simp
theorem blk_old {w : World} {o : Obj} {n : Nat} (h : n < w.heap.size) : (w.alloc o).heap[n]? = w.heap[n]? := Below.heap_alloc _ _ _ h
theorem ret_int {k : IntKind} {a b : Int} (h : a = b) : Ending.returned (.int k a) = .returned (.int k b) := by rw [h]
theorem ret_bool {a b : Bool} (h : a = b) : Ending.returned (.bool a) = .returned (.bool b) := by rw [h]
/-- Old cells read as before, in the walk's own form. -/
theorem bcell {W w1 : World} (hb : Below W.heap.size W w1) : (∀ b o, b < W.heap.size → w1.cell? ⟨b, o, none⟩ = W.cell? ⟨b, o, none⟩) ∧ (∀ b o, b < W.heap.size → w1.frozen? ⟨b, o, none⟩ = W.frozen? ⟨b, o, none⟩) :=
  ⟨fun b o h => hb.cell (p := ⟨b, o, none⟩) h, fun b o h => hb.frozen (p := ⟨b, o, none⟩) h⟩
end Go.Proofs.Ytaicecnfodhlcaa
/- Contracts of package pane. -/
set_option linter.unusedVariables false
set_option linter.unusedSimpArgs false
namespace Go.Proofs.Ytaicecnfodhlcaa
open Go.RowKit

/-- A right view. -/
def View.ok (v : View) : Bool := decide (1 ≤ v.size ∧ v.size ≤ 1099511627776 ∧ 1 ≤ v.slide ∧ v.slide ≤ 1099511627776 ∧ 0 ≤ v.late ∧ v.late ≤ 1099511627776 ∧ v.size ≤ 64 * v.slide)
def View.chk (v : View) : Int := if v.ok then 0 else 23
theorem View.ok_iff (v : View) : v.ok = true ↔ (1 ≤ v.size ∧ v.size ≤ 1099511627776 ∧ 1 ≤ v.slide ∧ v.slide ≤ 1099511627776 ∧ 0 ≤ v.late ∧ v.late ≤ 1099511627776 ∧ v.size ≤ 64 * v.slide) := by simp [View.ok]

set_option maxHeartbeats 1000000 in
theorem check_any (a b c : Int) (w : World) : Calls Try.prog 51 #[.agg #[.int .i64 a, .int .i64 b, .int .i64 c]] w fun e w' => e = .returned (.int .i64 (View.chk ⟨a, b, c⟩)) ∧ Below w.heap.size w w' := by
  go_enter Try.func51, Try.ntmps51
  go_wp2
  all_goals go_ret
  all_goals exact ⟨ret_int (by simp [View.chk, View.ok]; omega), (Below.refl _ _).alloc (Nat.le_refl _) _⟩

theorem tmod_neg {n d : Int} (hd : 1 ≤ d) (h : n.tmod d < 0) : n.tmod d + d = n % d := by
  rw [Int.tmod_eq_emod] at *
  have := Int.emod_nonneg n (b := d) (by omega)
  split at h
  · omega
  · rename_i hc
    rw [if_neg hc]
    omega
theorem tmod_pos {n d : Int} (hd : 1 ≤ d) (h : 0 ≤ n.tmod d) : n.tmod d = n % d := by
  rw [Int.tmod_eq_emod] at *
  have := Int.emod_lt_of_pos n (b := d) (by omega)
  split at h
  · rename_i hc
    rw [if_pos hc]
    omega
  · omega
theorem floor_eq (n d : Int) : n / d * d = n - n % d := by
  have := Int.mul_ediv_add_emod n d
  rw [Int.mul_comm] at this
  omega

theorem floor_any (n d : Int) (w : World) (hd : 1 ≤ d) (hd2 : d ≤ 1099511627776) (hn : -2305843009213693952 ≤ n) (hn2 : n ≤ 2305843009213693952) :
    Calls Try.prog 73 #[.int .i64 n, .int .i64 d] w fun e w' => e = .returned (.int .i64 (n / d * d)) ∧ w = w' := by
  have m0 := Int.emod_nonneg n (b := d) (by omega)
  have m1 := Int.emod_lt_of_pos n (b := d) (by omega)
  go_enter Try.func73, Try.ntmps73
  go_wp2
  all_goals go_ret
  · refine ⟨ret_int ?_, rfl⟩
    have h : n.tmod d < 0 := by assumption
    have e := tmod_neg hd h
    rw [floor_eq]
    unfold wrap64
    omega
  · refine ⟨ret_int ?_, rfl⟩
    have h : 0 ≤ n.tmod d := by assumption
    have e := tmod_pos hd h
    rw [floor_eq]
    unfold wrap64
    omega

theorem end_any (a b c s : Int) (w : World) : Calls Try.prog 72 #[.agg #[.int .i64 a, .int .i64 b, .int .i64 c], .int .i64 s] w fun e w' => e = .returned (.int .i64 (wrap64 (s + a))) ∧ Below w.heap.size w w' := by
  go_enter Try.func72, Try.ntmps72
  go_wp2
  go_ret
  exact ⟨ret_int (by simp), (Below.refl _ _).alloc (Nat.le_refl _) _⟩

/-- The window that begins at s is closed under a mark. -/
def View.shut (v : View) (s m : Int) : Bool := decide (s + v.size + v.late ≤ m)

set_option maxHeartbeats 1000000 in
theorem closed_any (a b c s m : Int) (w : World) (hv : View.ok ⟨a, b, c⟩ = true) (hs : -4611686018427387904 ≤ s) (hs2 : s ≤ 4611686018427387904) :
    Calls Try.prog 47 #[.agg #[.int .i64 a, .int .i64 b, .int .i64 c], .int .i64 s, .int .i64 m] w fun e w' => e = .returned (.bool (View.shut ⟨a, b, c⟩ s m)) ∧ Below w.heap.size w w' := by
  have hv' := (View.ok_iff _).1 hv
  simp only at hv'
  clear hv
  have hfin : ∀ w', Below (w.heap.size + 1) (w.alloc (.cells #[.int .i64 a, .int .i64 b, .int .i64 c] 76)) w' → (decide (IntKind.i64.wrap (wrap64 (s + a) + c) ≤ m) = View.shut ⟨a, b, c⟩ s m) ∧ Below w.heap.size w w' := by
    intro w' h
    refine ⟨?_, ((Below.refl _ _).alloc (Nat.le_refl _) _).trans (h.mono (by omega))⟩
    have e0 : wrap64 (s + a) = s + a := by unfold wrap64; omega
    have e : IntKind.i64.wrap (wrap64 (s + a) + c) = s + a + c := by rw [e0]; exact IntWalk.i64_in _ (by omega)
    rw [e]; rfl
  have kp : ∀ w', Below (w.heap.size + 1) (w.alloc (.cells #[.int .i64 a, .int .i64 b, .int .i64 c] 76)) w' → (Below (w.heap.size + 1) (w.alloc (.cells #[.int .i64 a, .int .i64 b, .int .i64 c] 76)) w' ∧ w'.cell? ⟨w.heap.size, 0, none⟩ = some (.int .i64 a) ∧ w'.cell? ⟨w.heap.size, 1, none⟩ = some (.int .i64 b) ∧ w'.cell? ⟨w.heap.size, 2, none⟩ = some (.int .i64 c)) := by
    intro w' h
    refine ⟨h, ?_, ?_, ?_⟩ <;> (rw [h.cell (by simp)]; go_simp)
  clear hv' hs hs2
  go_enter Try.func47, Try.ntmps47
  go_wp2
  go_region_held3 (fun w' => Below (w.heap.size + 1) (w.alloc (.cells #[.int .i64 a, .int .i64 b, .int .i64 c] 76)) w' ∧ w'.cell? ⟨w.heap.size, 0, none⟩ = some (.int .i64 a) ∧ w'.cell? ⟨w.heap.size, 1, none⟩ = some (.int .i64 b) ∧ w'.cell? ⟨w.heap.size, 2, none⟩ = some (.int .i64 c)) (first | exact kp _ (Below.refl _ _).drew | assumption)
    (first | (go_at_call 72; refine (end_any _ _ _ _ _).mono ?_; rintro e w' ⟨rfl, hb⟩; have hk := kp _ (Below.trans (And.left (by assumption)) (hb.mono (by simp)))))
  go_wp2
  go_ret
  have h := hfin _ hk.1
  exact ⟨ret_bool h.1, h.2⟩

end Go.Proofs.Ytaicecnfodhlcaa
/- Contracts of package pane: Starts, Open. -/
set_option linter.unusedVariables false
set_option linter.unusedSimpArgs false
namespace Go.Proofs.Ytaicecnfodhlcaa
open Go.RowKit

def View.last (v : View) (t : Int) : Int := t / v.slide * v.slide
/-- How many windows have the time t. -/
def View.cnt (v : View) (t : Int) : Nat := ((v.last t + v.size - t + v.slide - 1) / v.slide).toNat
/-- The windows that have the time t, rising. -/
def View.starts (v : View) (t : Int) : List Int := (List.range (v.cnt t)).map fun (i : Nat) => v.last t - ((v.cnt t : Int) - 1 - i) * v.slide

theorem last_bounds {v : View} (hv : v.ok = true) (t : Int) : v.last t ≤ t ∧ t - v.slide < v.last t := by
  have hv' := (View.ok_iff _).1 hv
  unfold View.last
  rw [floor_eq]
  have m0 := Int.emod_nonneg t (b := v.slide) (by omega)
  have m1 := Int.emod_lt_of_pos t (b := v.slide) (by omega)
  omega

/-- The first k that does not fit is the count. -/
theorem cnt_eq {v : View} (hv : v.ok = true) (t : Int) (k : Nat) (h1 : 1 ≤ k → t < v.last t - ((k : Int) - 1) * v.slide + v.size) (h2 : v.last t - (k : Int) * v.slide + v.size ≤ t) : k = v.cnt t := by
  have hv' := (View.ok_iff _).1 hv
  unfold View.cnt
  have hs : 0 < v.slide := by omega
  rcases Nat.eq_zero_or_pos k with rfl | hk
  · have : (v.last t + v.size - t + v.slide - 1) / v.slide < 1 := Int.ediv_lt_of_lt_mul hs (by simp at h2; omega)
    omega
  · have e1 : ((k : Int) - 1) * v.slide = k * v.slide - v.slide := by rw [Int.sub_mul]; omega
    have h1' := h1 hk
    rw [e1] at h1'
    have a1 : (k : Int) ≤ (v.last t + v.size - t + v.slide - 1) / v.slide := (Int.le_ediv_iff_mul_le hs).2 (by omega)
    have e2 : ((k : Int) + 1) * v.slide = k * v.slide + v.slide := by rw [Int.add_mul]; omega
    have a2 : (v.last t + v.size - t + v.slide - 1) / v.slide < (k : Int) + 1 := Int.ediv_lt_of_lt_mul hs (by rw [e2]; omega)
    omega

theorem cnt_le {v : View} (hv : v.ok = true) (t : Int) : v.cnt t ≤ 64 := by
  have hv' := (View.ok_iff _).1 hv
  have hl := last_bounds hv t
  unfold View.cnt
  have : (v.last t + v.size - t + v.slide - 1) / v.slide < 65 := Int.ediv_lt_of_lt_mul (by omega) (by omega)
  omega

theorem starts_length (v : View) (t : Int) : (v.starts t).length = v.cnt t := by simp [View.starts]
theorem starts_get (v : View) (t : Int) (i : Nat) (hi : i < (v.starts t).length) : (v.starts t)[i] = v.last t - ((v.cnt t : Int) - 1 - i) * v.slide := by simp [View.starts]
theorem st_i64 : SlT Try.prog 113 2 1 8 := SlT.mk' (z := .int .i64 0) Try.underlying113 (by decide) (by kernel_rfl) rfl
theorem info_i64 : (Try.prog.info? 2).map (fun i => (i.zero, i.size, i.bytes)) = some (some (.int .i64 0), 1, 8) := by kernel_rfl

set_option maxHeartbeats 1000000 in
theorem starts_any (a b c t : Int) (w : World) (hv : View.ok ⟨a, b, c⟩ = true) (ht : -1152921504606846976 ≤ t) (ht2 : t ≤ 1152921504606846976) :
    Calls Try.prog 52 #[.agg #[.int .i64 a, .int .i64 b, .int .i64 c], .int .i64 t] w fun e w' => ∃ v, e = .returned (.tuple #[v, .int .i64 0]) ∧ Own 2 1 i64L w.heap.size w' v (View.starts ⟨a, b, c⟩ t) ∧ Below w.heap.size w w' := by
  have hv' := (View.ok_iff _).1 hv
  simp only at hv'
  have hchk : View.chk ⟨a, b, c⟩ = 0 := by simp [View.chk, hv]
  have hlb := last_bounds hv t
  have hle : View.last ⟨a, b, c⟩ t = t / b * b := rfl
  rw [hle] at hlb
  simp only at hlb
  go_enter Try.func52, Try.ntmps52
  go_wp2_with fail
  refine (check_any _ _ _ _).mono ?_
  rw [hchk]
  rintro e w1 ⟨rfl, hb1⟩
  obtain ⟨hc1, hf1⟩ := bcell hb1
  have hz1 : w.heap.size + 1 ≤ w1.heap.size := by have := hb1.size; simp at this; omega
  have c0 : w1.cell? ⟨w.heap.size, 0, none⟩ = some (.int .i64 a) := by rw [hc1 _ _ (by simp)]; go_simp
  have c1 : w1.cell? ⟨w.heap.size, 1, none⟩ = some (.int .i64 b) := by rw [hc1 _ _ (by simp)]; go_simp
  have c2 : w1.cell? ⟨w.heap.size, 2, none⟩ = some (.int .i64 c) := by rw [hc1 _ _ (by simp)]; go_simp
  clear hc1 hf1 hle hchk
  go_wp2_with fail
  refine (floor_any _ _ _ (by omega) (by omega) (by omega) (by omega)).mono ?_
  rintro e w' ⟨rfl, rfl⟩
  generalize hL : t / b * b = L at *
  have HL := Lib.hid hL
  clear hL
  go_wp2_with fail
  go_loop [8, 9, 27] (fun n _ i => ∃ k : Nat, k ≤ 64 ∧ i = .int .i64 k ∧ n = .int .i64 k ∧ (1 ≤ k → t < L - ((k : Int) - 1) * b + a)) (fun _ _ i => 65 - (intOf i).toNat)
  case atStart => exact ⟨0, by omega, rfl, rfl, by omega⟩
  case round =>
    obtain ⟨k, hk, rfl, rfl, hlt⟩ := hrel
    have p0 : 0 ≤ (k : Int) * b := Int.mul_nonneg (by omega) (by omega)
    have p1 : (k : Int) * b ≤ 64 * b := Int.mul_le_mul_of_nonneg_right (by omega) (by omega)
    have Hlt := Lib.hid hlt
    clear hlt
    by_cases hc : t < L - (k : Int) * b + a
    · have hk64 : k < 64 := by
        rcases Nat.lt_or_ge k 64 with h | h
        · exact h
        · obtain rfl : k = 64 := by omega
          omega
      go_wp2
      go_round
      case rel => exact ⟨k + 1, by omega, by go_num, by go_num, fun _ => by rw [show ((k + 1 : Nat) : Int) - 1 = k from by omega]; exact hc⟩
      case measure => simp [intOf]; omega
    · have hcnt : k = View.cnt ⟨a, b, c⟩ t := cnt_eq hv t k (fun h => by rw [show View.last ⟨a, b, c⟩ t = L from HL.out]; exact Hlt.out h) (by rw [show View.last ⟨a, b, c⟩ t = L from HL.out]; simp only; omega)
      have Hcnt := Lib.hid hcnt
      clear hcnt
      have hmk := run_make_row' (P := Try.prog) 113 2 (.int .i64 0) 8 Try.underlying113 info_i64 rfl .i64 .i64 k (by omega) (by omega)
      go_wp2
      clear hmk
      go_loopw [11, 47] (fun _ i wr => ∃ j : Nat, j ≤ k ∧ i = .int .i64 j ∧ wr.rowIs w1.heap.size 2 k (fun q => .int .i64 (if q < j then L - ((k : Int) - 1 - q) * b else 0)) ∧ Below w1.heap.size w1 wr ∧ w1.heap.size + 1 ≤ wr.heap.size) (fun _ i _ => k - (intOf i).toNat)
      case atStart =>
        refine ⟨0, by omega, rfl, ?_, (Below.refl _ _).alloc (Nat.le_refl _) _, by simp⟩
        exact (World.rowIs_made _ _ _ _).congr (fun q _ => by simp)
      case round =>
        obtain ⟨j, hj, rfl, hrow, hbr, hzr⟩ := hrel
        have d1 : wr.cell? ⟨w.heap.size, 1, none⟩ = some (.int .i64 b) := by rw [hbr.cell (by simp; omega)]; exact c1
        have q0 : 0 ≤ ((k : Int) - 1 - j) * b ∨ ¬ j < k := by
          by_cases h : j < k
          · left; exact Int.mul_nonneg (by omega) (by omega)
          · right; exact h
        have q1 : ((k : Int) - 1 - j) * b ≤ 64 * b := Int.mul_le_mul_of_nonneg_right (by omega) (by omega)
        have Hrow := Lib.hid hrow
        clear hrow
        by_cases hlt : j < k
        · have q0' : 0 ≤ ((k : Int) - 1 - j) * b := by omega
          have e1 := Hrow.out.cell hlt
          have e2 := Hrow.out.frozen j
          rw [if_neg (Nat.lt_irrefl j)] at e1
          clear q0
          go_wp2
          go_round
          case rel =>
            refine ⟨j + 1, by omega, by go_num, ?_, ?_, ?_⟩
            · refine (Hrow.out.set j _).congr fun q hq => ?_
              by_cases h1 : q = j
              · subst h1; simp
              · by_cases h2 : q < j
                · rw [if_neg h1, if_pos h2, if_pos (by omega)]
                · rw [if_neg h1, if_neg h2, if_neg (by omega)]
            · exact hbr.setCell (by simp) _
            · simpa using hzr
          case measure => simp [intOf]; omega
        · obtain rfl : j = k := by omega
          go_wp2
          go_ret2
          refine ⟨.slice (some ⟨w1.heap.size, 0, none⟩) j j, rfl, ?_, ?_⟩
          · have ho := Own.of_row (xs := View.starts ⟨a, b, c⟩ t) (enc := i64L) (B := w.heap.size) Hrow.out (by omega) (by unfold maxLen; omega) (by rw [starts_length]; exact Hcnt.out.symm) (fun i hi => by
              rw [starts_get, ← Hcnt.out, show View.last ⟨a, b, c⟩ t = L from HL.out]
              rw [starts_length, ← Hcnt.out] at hi
              simp [hi]) (fun _ => rfl)
            rw [show (View.starts ⟨a, b, c⟩ t).length = j from by rw [starts_length]; exact Hcnt.out.symm] at ho
            exact ho
          · exact ((Below.refl _ _).alloc (Nat.le_refl _) _).trans ((hb1.mono (by simp)).trans (hbr.mono (by omega)))
theorem Sl.at_i64 {w : World} {a : Option Addr} {xs : List Int} (h : Sl 1 i64L w a xs) {i : Nat} (hi : i < xs.length) :
    ∃ b off, a = some ⟨b, off, none⟩ ∧ b < w.heap.size ∧ w.cell? ⟨b, off + i, none⟩ = some (.int .i64 xs[i]) := by
  obtain ⟨b, off, e, hlt, hc⟩ := h.at1 hi rfl
  exact ⟨b, off, e, hlt, by simpa using hc⟩

/-- The windows of a time that are open under a mark. -/
def View.opens (v : View) (t m : Int) : List Int := (v.starts t).filter fun s => !v.shut s m

/-- The windows of a time rise. -/
theorem starts_mono {v : View} (hv : v.ok = true) (t : Int) : ∀ i j (hi : i < (v.starts t).length) (hj : j < (v.starts t).length), i ≤ j → (v.starts t)[i] ≤ (v.starts t)[j] := by
  have hv' := (View.ok_iff _).1 hv
  intro i j hi hj hij
  rw [starts_get, starts_get]
  have : ((v.cnt t : Int) - 1 - j) * v.slide ≤ ((v.cnt t : Int) - 1 - i) * v.slide := Int.mul_le_mul_of_nonneg_right (by omega) (by omega)
  omega
theorem starts_bounds {v : View} (hv : v.ok = true) {t : Int} (ht : -1152921504606846976 ≤ t) (ht2 : t ≤ 1152921504606846976) : ∀ s ∈ v.starts t, -1153062242095202304 ≤ s ∧ s ≤ 1152921504606846976 := by
  have hv' := (View.ok_iff _).1 hv
  have hl := last_bounds hv t
  have hc := cnt_le hv t
  intro s hs
  obtain ⟨i, hi, rfl⟩ := List.getElem_of_mem hs
  rw [starts_get]
  rw [starts_length] at hi
  have a1 : ((v.cnt t : Int) - 1 - i) * v.slide ≤ 64 * v.slide := Int.mul_le_mul_of_nonneg_right (by omega) (by omega)
  have a0 : 0 ≤ ((v.cnt t : Int) - 1 - i) * v.slide := Int.mul_nonneg (by omega) (by omega)
  omega

theorem shut_mono {v : View} {s s' m : Int} (h : s ≤ s') (hs : v.shut s m = false) : v.shut s' m = false := by
  unfold View.shut at *
  simp at *
  omega
/-- From the first one that is open on all are. -/
theorem drop_eq_filter {v : View} {xs : List Int} {m : Int} {j : Nat} {hj : j < xs.length} (h : ∀ q (hq : q < xs.length), q < j → v.shut xs[q] m = true) (hs : v.shut xs[j] m = false)
    (hm : ∀ i j (hi : i < xs.length) (hj : j < xs.length), i ≤ j → xs[i] ≤ xs[j]) : xs.filter (fun s => !v.shut s m) = xs.drop j := by
  conv => lhs; rw [← List.take_append_drop j xs]
  rw [List.filter_append]
  have e1 : (xs.take j).filter (fun s => !v.shut s m) = [] := by
    rw [List.filter_eq_nil_iff]
    intro s hs'
    obtain ⟨q, hq, rfl⟩ := List.getElem_of_mem hs'
    simp at hq
    rw [List.getElem_take]
    simp [h q (by omega) (by omega)]
  have e2 : (xs.drop j).filter (fun s => !v.shut s m) = xs.drop j := by
    rw [List.filter_eq_self]
    intro s hs'
    obtain ⟨q, hq, rfl⟩ := List.getElem_of_mem hs'
    simp at hq
    rw [List.getElem_drop]
    simp [shut_mono (hm j (j + q) hj (by omega) (by omega)) hs]
  rw [e1, e2]; rfl

set_option maxHeartbeats 1000000 in
theorem open_any (a b c t m : Int) (w : World) (hv : View.ok ⟨a, b, c⟩ = true) (ht : -1152921504606846976 ≤ t) (ht2 : t ≤ 1152921504606846976) :
    Calls Try.prog 53 #[.agg #[.int .i64 a, .int .i64 b, .int .i64 c], .int .i64 t, .int .i64 m] w fun e w' => ∃ v, e = .returned (.tuple #[v, .int .i64 0]) ∧ Own 2 1 i64L w.heap.size w' v (View.opens ⟨a, b, c⟩ t m) ∧ Below w.heap.size w w' := by
  have hst := fun w => starts_any a b c t w hv ht ht2
  have hcl : (View.starts ⟨a, b, c⟩ t).length ≤ 64 := by rw [starts_length]; exact cnt_le hv t
  rw [show View.opens ⟨a, b, c⟩ t m = (View.starts ⟨a, b, c⟩ t).filter (fun s => !View.shut ⟨a, b, c⟩ s m) from rfl]
  have hmono := starts_mono hv t
  have hbd := starts_bounds hv ht ht2
  generalize View.starts ⟨a, b, c⟩ t = xs at *
  go_enter Try.func53, Try.ntmps53
  go_wp2_with fail
  go_step3
  go_wp2_with fail
  refine (hst _).mono ?_
  clear hst
  rintro e w1 ⟨v, rfl, hown, hb1⟩
  obtain ⟨o, cap, rfl, hcap, hsl, hov, hun⟩ := hown.sl fun _ => rfl
  have Hown := Lib.hid hown
  clear hown
  obtain ⟨hc1, hf1⟩ := bcell hb1
  have hz1 : w.heap.size + 1 ≤ w1.heap.size := by have := hb1.size; simp at this; omega
  have c0 : w1.cell? ⟨w.heap.size, 0, none⟩ = some (.int .i64 a) := by rw [hc1 _ _ (by simp)]; go_simp
  have c1 : w1.cell? ⟨w.heap.size, 1, none⟩ = some (.int .i64 b) := by rw [hc1 _ _ (by simp)]; go_simp
  have c2 : w1.cell? ⟨w.heap.size, 2, none⟩ = some (.int .i64 c) := by rw [hc1 _ _ (by simp)]; go_simp
  clear hc1 hf1
  go_wp2_with fail
  go_step3
  go_wp2_with fail
  go_loopg [10, 24] xs.length (fun g x i wr => ∃ j : Nat, j + g = xs.length ∧ i = .int .i64 j ∧ x = .slice none 0 0 ∧ Below w1.heap.size w1 wr ∧ (∀ q (hq : q < xs.length), q < j → View.shut ⟨a, b, c⟩ xs[q] m = true))
  case atStart => exact ⟨0, by omega, rfl, rfl, Below.refl _ _, fun q _ h => absurd h (Nat.not_lt_zero _)⟩
  case round =>
    obtain ⟨j, hj, rfl, rfl, hbr, hall⟩ := hrel
    have Hall := Lib.hid hall
    clear hall
    have Hj := Lib.hid hj
    clear hj
    by_cases hlt : j < xs.length
    · obtain ⟨ob, oo, rfl, hob, hcj⟩ := hsl.at_i64 (i := j) hlt
      have hcj' : wr.cell? ⟨ob, oo + j, none⟩ = some (.int .i64 xs[j]) := by rw [hbr.cell (by simpa using hob)]; exact hcj
      have d0 : wr.cell? ⟨w.heap.size, 0, none⟩ = some (.int .i64 a) := by rw [hbr.cell (by simp; omega)]; exact c0
      have d1 : wr.cell? ⟨w.heap.size, 1, none⟩ = some (.int .i64 b) := by rw [hbr.cell (by simp; omega)]; exact c1
      have d2 : wr.cell? ⟨w.heap.size, 2, none⟩ = some (.int .i64 c) := by rw [hbr.cell (by simp; omega)]; exact c2
      clear hcj
      have Hs := hbd xs[j] (List.getElem_mem _)
      generalize hxj : xs[j] = s at *
      have Hxj := Lib.hid hxj
      clear hxj
      go_wp2_with fail
      refine wp_loop_rounds 2 ?_
      rw [rounds_succ]
      go_wp2_with fail
      refine (closed_any _ _ _ _ _ _ hv (by omega) (by omega)).mono ?_
      rintro e w2 ⟨rfl, hb2⟩
      cases hsh : View.shut ⟨a, b, c⟩ s m
      · go_wp2_with fail
        rw [rounds_succ]
        have hne : ¬ cap = j := by omega
        go_wp2_with (at_builtin; go_loud (refine wpList_app st_i64 rfl _ _ rfl i64L (fun _ => rfl) cells1_i64 w.heap.size _ [] rfl (Own.nil _ _ _ _ _) (some ⟨ob, oo + j, none⟩) (xs.length - j) (cap - j) (xs.drop j) rfl ?c1 ?c2 ?c3 ?c4 ?c5 ?_))
        case c1 => simp
        case c2 =>
          have h2 := (Sl.belowB (hsl.belowB hbr hun) hb2 (hun.mono hbr.size)).drop j
          simpa using h2
        case c3 => simp; omega
        case c4 => decide
        case c5 => have := hbr.size; have := hb2.size; omega
        intro v' w3 hown' hgr _
        have hz3 : w.heap.size ≤ w2.heap.size := by have := hbr.size; have := hb2.size; omega
        go_wp2
        try rw [Exit.noGoto_ret]
        go_ret2
        refine ⟨v', rfl, ?_, ?_⟩
        · rw [drop_eq_filter Hall.out (by rw [Hxj.out]; exact hsh) hmono]; exact hown'
        · refine Below.grown ?_ hgr hz3 (fun k hk => by cases hk)
          exact ((Below.refl _ _).alloc (Nat.le_refl _) _).trans ((hb1.mono (by simp)).trans ((hbr.mono (by omega)).trans (hb2.mono (by have := hbr.size; omega))))
      · go_wp2_with fail
        go_roundg (gk - 1)
        case measure => have := Hj.out; omega
        case rel =>
          refine ⟨j + 1, by have := Hj.out; omega, by go_num, rfl, hbr.trans (hb2.mono (hbr.size)), fun q hq hlt' => ?_⟩
          by_cases e : q = j
          · subst e; rw [Hxj.out]; exact hsh
          · exact Hall.out q hq (by omega)
    · go_wp2_with fail
      try rw [Exit.noGoto_ret]
      go_ret2
      refine ⟨.slice none 0 0, rfl, ?_, ?_⟩
      · have e0 : xs.filter (fun s => !View.shut ⟨a, b, c⟩ s m) = [] := by
          rw [List.filter_eq_nil_iff]
          intro s hs
          obtain ⟨q, hq, rfl⟩ := List.getElem_of_mem hs
          simp [Hall.out q hq (by omega)]
        rw [e0]
        exact Own.nil _ _ _ _ _
      · exact ((Below.refl _ _).alloc (Nat.le_refl _) _).trans ((hb1.mono (by simp)).trans (hbr.mono (by omega)))
end Go.Proofs.Ytaicecnfodhlcaa
/- Contracts of package mark: New, Least, Rise. -/
set_option linter.unusedVariables false
set_option linter.unusedSimpArgs false
namespace Go.Proofs.Ytaicecnfodhlcaa
open Go.RowKit

/-- The least number of a list. -/
def leastOf : List Int → Int
  | [] => 0
  | x :: r => r.foldl min x
theorem leastOf_snoc {xs : List Int} (h : xs ≠ []) (x : Int) : leastOf (xs ++ [x]) = min (leastOf xs) x := by
  cases xs with
  | nil => exact absurd rfl h
  | cons y r => simp [leastOf, List.foldl_append]
theorem leastOf_take {xs : List Int} {k : Nat} (h1 : 1 ≤ k) (hk : k < xs.length) : leastOf (xs.take (k + 1)) = min (leastOf (xs.take k)) xs[k] := by
  rw [List.take_succ_eq_append_getElem hk, leastOf_snoc]
  intro e
  rw [List.take_eq_nil_iff] at e
  rcases e with e | e
  · omega
  · subst e; simp at hk

set_option maxHeartbeats 400000 in
theorem min_any (a : Option Addr) (cap : Nat) (xs : List Int) (w : World) (hs : Sl 1 i64L w a xs) (h0 : 1 ≤ xs.length) (h1 : xs.length ≤ 1000) :
    Calls Try.prog 55 #[.slice a xs.length cap] w fun e w' => e = .returned (.int .i64 (leastOf xs)) ∧ w = w' := by
  obtain ⟨b, off, rfl, hb, hc0⟩ := hs.at_i64 (i := 0) (by omega)
  have hx0 : leastOf (xs.take 1) = xs[0] := by
    obtain ⟨x, r, rfl⟩ := List.exists_cons_of_length_pos h0
    rfl
  simp only [Nat.add_zero] at hc0
  go_enter Try.func55, Try.ntmps55
  go_wp2_with fail
  go_loopg [3, 4] (xs.length - 1) (fun g m i wr => ∃ k : Nat, k + g = xs.length ∧ 1 ≤ k ∧ i = .int .i64 k ∧ m = .int .i64 (leastOf (xs.take k)) ∧ w = wr)
  case atStart => exact ⟨1, by omega, by omega, rfl, by rw [hx0], rfl⟩
  case round => 
    obtain ⟨k, hk, h1k, rfl, rfl, rfl⟩ := hrel
    have Hk := Lib.hid hk
    clear hk
    by_cases hlt : k < xs.length
    · obtain ⟨b', off', e, _, hck⟩ := hs.at_i64 (i := k) hlt
      cases e
      have hl := leastOf_take h1k hlt
      have Hl := Lib.hid hl
      clear hl
      go_wp2_with fail
      all_goals
        go_roundg (gk - 1)
        case measure => have := Hk.out; omega
        case rel =>
          refine ⟨k + 1, by have := Hk.out; omega, by omega, by go_num, ?_, rfl⟩
          rw [Hl.out]
          first | (rw [Int.min_eq_right (by omega)]; done) | (rw [Int.min_eq_left (by omega)]; done)
    · obtain rfl : k = xs.length := by have := Hk.out; omega
      go_wp2_with fail
      go_ret
      exact ⟨ret_int (by rw [List.take_length]), rfl⟩

def noMark : Int := -4611686018427387904

/-- A mark.Marks: its struct in block bm, its marks in block bl. -/
structure IsMarks (w : World) (bm bl : Nat) (ms : List Int) : Prop where
  obj : w.heap[bm]? = some (.cells #[.slice (some ⟨bl, 0, none⟩) ms.length ms.length] 115 (0, 0))
  row : w.rowIs bl 2 ms.length (fun i => .int .i64 (ms.getD i 0))
  lo : 1 ≤ ms.length
  hi : ms.length ≤ 8

theorem IsMarks.keep {w w' : World} {bm bl : Nat} {ms : List Int} (h : IsMarks w bm bl ms) (h1 : w'.heap[bm]? = w.heap[bm]?) (h2 : w'.heap[bl]? = w.heap[bl]?) : IsMarks w' bm bl ms :=
  ⟨h1.trans h.obj, h.row.of_block h2, h.lo, h.hi⟩
theorem IsMarks.lt {w : World} {bm bl : Nat} {ms : List Int} (h : IsMarks w bm bl ms) : bm < w.heap.size ∧ bl < w.heap.size := ⟨lt_of_block h.obj, h.row.lt⟩
theorem IsMarks.ne {w : World} {bm bl : Nat} {ms : List Int} (h : IsMarks w bm bl ms) : bm ≠ bl := by
  rintro rfl
  obtain ⟨c, hc, hn, hf⟩ := h.row
  have := h.obj.symm.trans hc
  simp at this
theorem IsMarks.sl {w : World} {bm bl : Nat} {ms : List Int} (h : IsMarks w bm bl ms) : Sl 1 i64L w (some ⟨bl, 0, none⟩) ms := by
  intro i hi
  refine ⟨bl, 0, rfl, h.row.lt, fun j u hu => ?_⟩
  match j, hu with
  | 0, hu =>
    simp at hu
    have := h.row.cell (i := i) hi
    simp [hi] at this
    simpa [hu] using this

set_option maxHeartbeats 400000 in
theorem marksNew_bad (n : Int) (w : World) (h : n < 1 ∨ 8 < n) : Calls Try.prog 18 #[.int .i64 n] w fun e w' => e = .returned (.tuple #[.pointer none, .int .i64 1]) ∧ w = w' := by
  go_enter Try.func18, Try.ntmps18
  rcases h with h | h
  · go_wp2
    go_ret2
    exact ⟨rfl, rfl⟩
  · have h' : ¬ n < 1 := by omega
    go_wp2
    go_ret2
    exact ⟨rfl, rfl⟩

set_option maxHeartbeats 400000 in
theorem marksNew_any (n : Int) (w : World) (h0 : 1 ≤ n) (h1 : n ≤ 8) : Calls Try.prog 18 #[.int .i64 n] w fun e w' => e = .returned (.tuple #[.pointer (some ⟨w.heap.size + 1, 0, none⟩), .int .i64 0]) ∧ IsMarks w' (w.heap.size + 1) w.heap.size (List.replicate n.toNat noMark) ∧ Below w.heap.size w w' := by
  obtain ⟨k, rfl⟩ := Int.eq_ofNat_of_zero_le (by omega : 0 ≤ n)
  rw [Int.toNat_natCast]
  have hmk := run_make_row' (P := Try.prog) 113 2 (.int .i64 0) 8 Try.underlying113 info_i64 rfl .i64 .i64 k (by omega) (by omega)
  go_enter Try.func18, Try.ntmps18
  go_wp2
  go_loopg [5, 21] k (fun g _ i wr => ∃ j : Nat, j + g = k ∧ i = .int .i64 j ∧ wr.rowIs w.heap.size 2 k (fun q => .int .i64 (if q < j then noMark else 0)) ∧ wr.heap[w.heap.size + 1]? = some (.cells #[.slice (some ⟨w.heap.size, 0, none⟩) k k] 115 (0, 0)) ∧ Below w.heap.size w wr)
  case atStart =>
    refine ⟨0, by omega, rfl, ?_, ?_, ((Below.refl _ _).alloc (Nat.le_refl _) _).alloc (by simp) _⟩
    · exact ((World.rowIs_made _ _ _ _).congr (fun q _ => by simp)).alloc _
    · exact blk_at (by simp)
  case round =>
    obtain ⟨j, hj, rfl, hrow, hobj, hb⟩ := hrel
    have Hj := Lib.hid hj
    have Hrow := Lib.hid hrow
    have Hobj := Lib.hid hobj
    have hz := hrow.lt
    have c0 := cell_of_one hobj
    clear hj hrow hobj hmk
    by_cases hlt : j < k
    · have e1 := Hrow.out.cell hlt
      have e2 := Hrow.out.frozen j
      rw [if_neg (Nat.lt_irrefl j)] at e1
      go_wp2
      go_roundg (gk - 1)
      case measure => have := Hj.out; omega
      case rel =>
        refine ⟨j + 1, by have := Hj.out; omega, by go_num, ?_, ?_, hb.setCell (by simp) _⟩
        · refine (Hrow.out.set j _).congr fun q hq => ?_
          by_cases h1 : q = j
          · subst h1; simp [noMark]
          · by_cases h2 : q < j
            · rw [if_neg h1, if_pos h2, if_pos (by omega)]
            · rw [if_neg h1, if_neg h2, if_neg (by omega)]
        · rw [Below.heap_setCell _ _ _ _ (by simp)]; exact Hobj.out
    · obtain rfl : j = k := by have := Hj.out; omega
      go_wp2
      go_ret2
      refine ⟨rfl, ⟨by rw [List.length_replicate]; exact Hobj.out, ?_, by simp; omega, by simp; omega⟩, hb⟩
      rw [List.length_replicate]
      exact Hrow.out.congr fun q hq => by simp [hq]

theorem marksLeast_any (bm bl : Nat) (ms : List Int) (w : World) (h : IsMarks w bm bl ms) : Calls Try.prog 24 #[.pointer (some ⟨bm, 0, none⟩)] w fun e w' => e = .returned (.int .i64 (leastOf ms)) ∧ w = w' := by
  have c0 := cell_of_one h.obj
  have hm := fun W => min_any (some ⟨bl, 0, none⟩) ms.length ms W
  have h1 := h.lo
  have h2 := h.hi
  have Hs := Lib.hid h.sl
  clear h
  go_enter Try.func24, Try.ntmps24
  go_wp2_with (go_at_call 55; refine (hm _ Hs.out h1 (by omega)).mono ?_; rintro e w' ⟨rfl, rfl⟩)
  go_ret
  exact ⟨rfl, rfl⟩
end Go.Proofs.Ytaicecnfodhlcaa
/- Contracts of package mark: Rise. -/
set_option linter.unusedVariables false
set_option linter.unusedSimpArgs false
namespace Go.Proofs.Ytaicecnfodhlcaa
open Go.RowKit

set_option maxHeartbeats 400000 in
theorem rise_src (bm bl : Nat) (ms : List Int) (s t : Int) (w : World) (h : IsMarks w bm bl ms) (hs : s < 0 ∨ ms.length ≤ s) :
    Calls Try.prog 23 #[.pointer (some ⟨bm, 0, none⟩), .int .i64 s, .int .i64 t] w fun e w' => e = .returned (.tuple #[.bool false, .int .i64 1]) ∧ w = w' := by
  have c0 := cell_of_one h.obj
  clear h
  go_enter Try.func23, Try.ntmps23
  rcases hs with hs | hs
  · go_wp2_with fail
    go_ret2
    exact ⟨rfl, rfl⟩
  · have h' : ¬ s < 0 := by omega
    go_wp2_with fail
    go_ret2
    exact ⟨rfl, rfl⟩

set_option maxHeartbeats 400000 in
theorem rise_time (bm bl : Nat) (ms : List Int) (s t : Int) (w : World) (h : IsMarks w bm bl ms) (hs : 0 ≤ s) (hs2 : s < ms.length) (ht : t < -1152921504606846976 ∨ 1152921504606846976 < t) :
    Calls Try.prog 23 #[.pointer (some ⟨bm, 0, none⟩), .int .i64 s, .int .i64 t] w fun e w' => e = .returned (.tuple #[.bool false, .int .i64 22]) ∧ w = w' := by
  have c0 := cell_of_one h.obj
  clear h
  go_enter Try.func23, Try.ntmps23
  rcases ht with hs | hs
  · go_wp2_with fail
    go_ret2
    exact ⟨rfl, rfl⟩
  · have h' : ¬ t < -1152921504606846976 := by omega
    go_wp2_with fail
    go_ret2
    exact ⟨rfl, rfl⟩

theorem IsMarks.set {w : World} {bm bl : Nat} {ms : List Int} (h : IsMarks w bm bl ms) (k : Nat) (x : Int) : IsMarks (w.setCell ⟨bl, k, none⟩ (.int .i64 x)) bm bl (ms.set k x) := by
  refine ⟨?_, ?_, by simpa using h.lo, by simpa using h.hi⟩
  · rw [Below.heap_setCell _ _ _ _ h.ne, List.length_set]
    exact h.obj
  · rw [List.length_set]
    refine (h.row.set k _).congr fun i hi => ?_
    by_cases e : i = k
    · subst e; simp [hi]
    · simp [e, Ne.symm e, List.getElem?_set]
theorem Chg.set (w : World) {a : Addr} {l : List Nat} (h : a.block ∈ l) (v : Value) : Chg l w (w.setCell a v) :=
  ⟨rfl, rfl, rfl, by simp [World.setCell], fun k _ hk => Below.heap_setCell _ _ _ _ (fun e => hk (e ▸ h))⟩
theorem IsMarks.drew {w : World} {bm bl : Nat} {ms : List Int} (h : IsMarks w bm bl ms) : IsMarks w.drew bm bl ms := ⟨h.obj, h.row.drew, h.lo, h.hi⟩
theorem Chg.drew {l : List Nat} {a b : World} (h : Chg l a b) : Chg l a b.drew := ⟨h.os, h.tape, h.output, h.size, h.block⟩

set_option maxHeartbeats 1000000 in
theorem rise_ok (bm bl : Nat) (ms : List Int) (s t : Int) (w : World) (h : IsMarks w bm bl ms) (hs : 0 ≤ s) (hs2 : s < ms.length) (ht : -1152921504606846976 ≤ t) (ht2 : t ≤ 1152921504606846976) :
    Calls Try.prog 23 #[.pointer (some ⟨bm, 0, none⟩), .int .i64 s, .int .i64 t] w fun e w' =>
      e = .returned (.tuple #[.bool (decide (leastOf ms < leastOf (ms.set s.toNat (max (ms.getD s.toNat 0) t)))), .int .i64 0]) ∧ IsMarks w' bm bl (ms.set s.toNat (max (ms.getD s.toNat 0) t)) ∧ Chg [bl] w w' := by
  obtain ⟨k, rfl⟩ := Int.eq_ofNat_of_zero_le hs
  rw [Int.toNat_natCast]
  have hk : k < ms.length := by omega
  have c0 := cell_of_one h.obj
  have e1 := h.row.cell hk
  have e2 := h.row.frozen k
  have H := Lib.hid h
  clear h hs
  generalize ms.getD k 0 = x at *
  have h2 := fun y => (H.out.set k y).drew
  have h3 : ∀ y, Chg [bl] w ((w.setCell ⟨bl, k, none⟩ (.int .i64 y)).drew) := fun y => (Chg.set (a := ⟨bl, k, none⟩) w (by simp) _).drew
  have H2 := Lib.hid h2
  have H3 := Lib.hid h3
  clear h2 h3
  by_cases hm : x ≤ t
  all_goals
    go_enter Try.func23, Try.ntmps23
    go_wp2_with (go_at_call 24; refine (marksLeast_any bm bl ms _ H.out).mono ?_; rintro e w' ⟨rfl, rfl⟩)
    go_region
    go_wp2_with (go_at_call 24; refine (marksLeast_any bm bl _ _ (H2.out _)).mono ?_; rintro e w' ⟨rfl, rfl⟩)
    all_goals go_ret2
    all_goals first
      | (have e : max x t = t := by omega
         rw [e]; exact ⟨rfl, H2.out _, H3.out _⟩)
      | (have e : max x t = x := by omega
         rw [e]; exact ⟨rfl, H2.out _, H3.out _⟩)
      | (exfalso; omega)
end Go.Proofs.Ytaicecnfodhlcaa
