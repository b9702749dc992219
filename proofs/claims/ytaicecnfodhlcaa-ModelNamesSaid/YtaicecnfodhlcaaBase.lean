/- The words that the seat's own texts share: rows of cells in memory, worlds that turned in some blocks alone. -/
import Derived.WalkKit
import Derived.WalkSpells
import Derived.Lib.Hide
import Derived.Deep.QuietTactic
import Derived.BigQuiet
import Derived.KernelRfl
import Derived.Deep.OwnRows
import Derived.Deep.LoopGhost
set_option linter.unusedVariables false
set_option linter.unusedSimpArgs false
namespace Go.Proofs.Ytaicecnfodhlcaa
open Go.RowKit

/-- An api.Cell. -/
structure Cell where
  v : Int
  k : ByteArray
  s : Int
  deriving DecidableEq
instance : Inhabited Cell := ⟨⟨0, ByteArray.empty, 0⟩⟩
abbrev cellL (c : Cell) : List Value := [.int .i64 c.v, .string c.k, .int .i64 c.s]
/-- An api.View. -/
structure View where
  size : Int
  slide : Int
  late : Int
  deriving DecidableEq
instance : Inhabited View := ⟨⟨0, 0, 0⟩⟩
abbrev viewL (v : View) : List Value := [.int .i64 v.size, .int .i64 v.slide, .int .i64 v.late]
abbrev i64L (n : Int) : List Value := [.int .i64 n]

/-- w' came of w; of the blocks that lay in w none but those of l has turned. -/
structure Chg (l : List Nat) (w w' : World) : Prop where
  os : w'.os = w.os
  tape : w'.tape = w.tape
  output : w'.output = w.output
  size : w.heap.size ≤ w'.heap.size
  block : ∀ k, k < w.heap.size → k ∉ l → w'.heap[k]? = w.heap[k]?

theorem Chg.refl (l : List Nat) (w : World) : Chg l w w := ⟨rfl, rfl, rfl, Nat.le_refl _, fun _ _ _ => rfl⟩
theorem Chg.trans {l : List Nat} {a b c : World} (h : Chg l a b) (k : Chg l b c) : Chg l a c :=
  ⟨k.os.trans h.os, k.tape.trans h.tape, k.output.trans h.output, Nat.le_trans h.size k.size, fun i hi hl => (k.block i (Nat.lt_of_lt_of_le hi h.size) hl).trans (h.block i hi hl)⟩
theorem Chg.mono {l l' : List Nat} {a b : World} (h : Chg l a b) (hl : ∀ x ∈ l, x ∈ l') : Chg l' a b :=
  ⟨h.os, h.tape, h.output, h.size, fun i hi hn => h.block i hi (fun hx => hn (hl i hx))⟩
theorem Chg.of_below {a b : World} (h : Below a.heap.size a b) : Chg [] a b := ⟨h.os, h.tape, h.output, h.size, fun i hi _ => h.block i hi⟩
theorem Chg.of_grown {a b : World} {r : Nat} (h : a.grownBy b (some r)) : Chg [r] a b := ⟨h.os, h.tape, h.output, h.size, fun i hi hn => h.block i hi (fun e => hn (by cases e; simp))⟩
/-- Blocks that are all the call's own: below them nothing turned. -/
theorem Chg.below {l : List Nat} {a b : World} (h : Chg l a b) {B : Nat} (hB : B ≤ a.heap.size) (hl : ∀ x ∈ l, B ≤ x) : Below B a b :=
  ⟨h.os, h.tape, h.output, h.size, fun i hi => h.block i (by omega) (fun hx => by have := hl i hx; omega)⟩
theorem Chg.nil_below {a b : World} (h : Chg [] a b) : Below a.heap.size a b := h.below (Nat.le_refl _) (by simp)
theorem Below.chain {B : Nat} {a b c : World} (h : Below B a b) {l : List Nat} (k : Chg l b c) (hB : B ≤ b.heap.size) (hl : ∀ x ∈ l, B ≤ x) : Below B a c := h.trans (k.below hB hl)
theorem Below.drewN {B : Nat} {a w : World} (h : Below B a w) (n : Nat) : Below B a (w.drewN n) := h.trans ⟨rfl, rfl, rfl, Nat.le_refl _, fun _ _ => rfl⟩
/-- Behind a call that turned nothing. -/
theorem Below.pure {B : Nat} {a b c : World} (h : Below B a b) (k : Below b.heap.size b c) (hB : B ≤ b.heap.size) : Below B a c := h.trans (k.mono hB)

/-- THE SLICE AT a (of elements of sz cells each, told by enc) HOLDS xs. -/
def Sl {α : Type} (sz : Nat) (enc : α → List Value) (w : World) (a : Option Addr) (xs : List α) : Prop :=
  ∀ i (h : i < xs.length), ∃ b off, a = some ⟨b, off, none⟩ ∧ b < w.heap.size ∧ ∀ j u, (enc xs[i])[j]? = some u → w.cell? ⟨b, off + i * sz + j, none⟩ = some u

theorem Sl.nil {α : Type} (sz : Nat) (enc : α → List Value) (w : World) (a : Option Addr) : Sl sz enc w a ([] : List α) := fun i h => absurd h (Nat.not_lt_zero _)

/-- It stays while its block stays. -/
theorem Sl.keep {α : Type} {sz : Nat} {enc : α → List Value} {w w' : World} {a : Option Addr} {xs : List α} (h : Sl sz enc w a xs) (hs : w.heap.size ≤ w'.heap.size)
    (hb : ∀ b off, a = some ⟨b, off, none⟩ → b < w.heap.size → w'.heap[b]? = w.heap[b]?) : Sl sz enc w' a xs := by
  intro i hi
  obtain ⟨b, off, rfl, hlt, hc⟩ := h i hi
  refine ⟨b, off, rfl, by omega, fun j u hu => ?_⟩
  rw [World.cell?_of_block (w := w) (hb b off rfl hlt)]
  exact hc j u hu
theorem Sl.chg {α : Type} {sz : Nat} {enc : α → List Value} {w w' : World} {a : Option Addr} {xs : List α} {l : List Nat} (h : Sl sz enc w a xs) (k : Chg l w w')
    (hb : ∀ b off, a = some ⟨b, off, none⟩ → b ∉ l) : Sl sz enc w' a xs := h.keep k.size fun b off e hlt => k.block b hlt (hb b off e)
theorem Sl.below {α : Type} {sz : Nat} {enc : α → List Value} {w w' : World} {a : Option Addr} {xs : List α} (h : Sl sz enc w a xs) (k : Below w.heap.size w w') : Sl sz enc w' a xs :=
  h.keep k.size fun b off e hlt => k.block b hlt
/-- A slice below block number B. -/
def Under (B : Nat) (a : Option Addr) : Prop := ∀ b off sp, a = some ⟨b, off, sp⟩ → b < B
def Over (B : Nat) (a : Option Addr) : Prop := ∀ b off sp, a = some ⟨b, off, sp⟩ → B ≤ b
theorem Under.mono {B B' : Nat} {a : Option Addr} (h : Under B a) (hB : B ≤ B') : Under B' a := fun b off sp e => Nat.lt_of_lt_of_le (h b off sp e) hB
theorem Over.mono {B B' : Nat} {a : Option Addr} (h : Over B a) (hB : B' ≤ B) : Over B' a := fun b off sp e => Nat.le_trans hB (h b off sp e)
theorem Sl.belowB {α : Type} {sz : Nat} {enc : α → List Value} {w w' : World} {a : Option Addr} {xs : List α} {B : Nat} (h : Sl sz enc w a xs) (k : Below B w w') (hu : Under B a) : Sl sz enc w' a xs :=
  h.keep k.size fun b off e _ => k.block b (hu b off none e)

/-- One element, where the slice is not empty. -/
theorem Sl.at1 {α : Type} {sz : Nat} {enc : α → List Value} {w : World} {a : Option Addr} {xs : List α} (h : Sl sz enc w a xs) {i : Nat} (hi : i < xs.length) {u : Value} (he : enc xs[i] = [u]) :
    ∃ b off, a = some ⟨b, off, none⟩ ∧ b < w.heap.size ∧ w.cell? ⟨b, off + i * sz, none⟩ = some u := by
  obtain ⟨b, off, rfl, hlt, hc⟩ := h i hi
  exact ⟨b, off, rfl, hlt, hc 0 u (by rw [he]; rfl)⟩
theorem Sl.at3 {α : Type} {sz : Nat} {enc : α → List Value} {w : World} {a : Option Addr} {xs : List α} (h : Sl sz enc w a xs) {i : Nat} (hi : i < xs.length) {u v x : Value} (he : enc xs[i] = [u, v, x]) :
    ∃ b off, a = some ⟨b, off, none⟩ ∧ b < w.heap.size ∧ w.cell? ⟨b, off + i * sz, none⟩ = some u ∧ w.cell? ⟨b, off + i * sz + 1, none⟩ = some v ∧ w.cell? ⟨b, off + i * sz + 2, none⟩ = some x := by
  obtain ⟨b, off, rfl, hlt, hc⟩ := h i hi
  exact ⟨b, off, rfl, hlt, hc 0 u (by rw [he]; rfl), hc 1 v (by rw [he]; rfl), hc 2 x (by rw [he]; rfl)⟩

/-! ### memory of the call's own -/
theorem flat_length {α : Type} {sz : Nat} {enc : α → List Value} (h : ∀ x, (enc x).length = sz) : ∀ xs : List α, (xs.flatMap enc).length = xs.length * sz
  | [] => by simp
  | x :: r => by simp [List.flatMap_cons, flat_length h r, h x, Nat.add_mul, Nat.add_comm]
theorem flat_get {α : Type} {sz : Nat} {enc : α → List Value} (h : ∀ x, (enc x).length = sz) : ∀ (xs : List α) (i : Nat) (hi : i < xs.length) (j : Nat), j < sz → (xs.flatMap enc)[i * sz + j]? = (enc xs[i])[j]?
  | x :: r, 0, _, j, hj => by
    rw [List.flatMap_cons, List.getElem?_append_left (by rw [h x]; omega)]
    simp
  | x :: r, i + 1, hi, j, hj => by
    rw [List.flatMap_cons, List.getElem?_append_right (by rw [h x, Nat.add_mul]; omega), h x, show (i + 1) * sz + j - sz = i * sz + j from by rw [Nat.add_mul]; omega]
    exact flat_get h r i (by simpa using hi) j hj

/-- v IS A SLICE OF MEMORY FROM BLOCK B ON THAT HOLDS xs (elements of type E, sz cells each). -/
def Own {α : Type} (E sz : Nat) (enc : α → List Value) (B : Nat) (w : World) (v : Value) (xs : List α) : Prop := w.ownsRow B E sz v xs.length (xs.flatMap enc)

theorem Own.sl {α : Type} {E sz B : Nat} {enc : α → List Value} {w : World} {v : Value} {xs : List α} (h : Own E sz enc B w v xs) (hz : ∀ x, (enc x).length = sz) :
    ∃ o cap, v = .slice o xs.length cap ∧ xs.length ≤ cap ∧ Sl sz enc w o xs ∧ Over B o ∧ Under w.heap.size o := by
  obtain ⟨hl, h⟩ := h
  rcases h with ⟨rfl, h0⟩ | ⟨g, cap, cur, rfl, hB, hb, hcap, hmax, hcs, htake⟩
  · obtain rfl : xs = [] := List.eq_nil_of_length_eq_zero h0
    exact ⟨none, 0, rfl, Nat.le_refl _, Sl.nil _ _ _ _, (fun _ _ _ e => by cases e), (fun _ _ _ e => by cases e)⟩
  · have hg : g < w.heap.size := lt_of_block hb
    refine ⟨some ⟨g, 0, none⟩, cap, rfl, hcap, fun i hi => ⟨g, 0, rfl, hg, fun j u hu => ?_⟩, (fun b off sp e => by cases e; exact hB), (fun b off sp e => by cases e; exact hg)⟩
    have hj : j < sz := by
      have := (List.getElem?_eq_some_iff.1 hu).1
      rw [hz] at this; exact this
    have e1 := flat_get hz xs i hi j hj
    rw [hu, ← htake, List.getElem?_take] at e1
    split at e1
    · simp only [World.cell?, hb, Nat.zero_add]
      simpa using e1
    · cases e1

theorem Own.nil {α : Type} (E sz : Nat) (enc : α → List Value) (B : Nat) (w : World) : Own E sz enc B w (.slice none 0 0) ([] : List α) := World.ownsRow_nil _ _ _ _
theorem Own.mono {α : Type} {E sz B B' : Nat} {enc : α → List Value} {w : World} {v : Value} {xs : List α} (h : Own E sz enc B w v xs) (hB : B' ≤ B) : Own E sz enc B' w v xs := by
  obtain ⟨hl, h⟩ := h
  refine ⟨hl, ?_⟩
  rcases h with h | ⟨g, cap, cur, hv, hg, r⟩
  · exact .inl h
  · exact .inr ⟨g, cap, cur, hv, Nat.le_trans hB hg, r⟩
/-- It stays while its block stays. -/
theorem Own.keep {α : Type} {E sz B : Nat} {enc : α → List Value} {w w' : World} {v : Value} {xs : List α} (h : Own E sz enc B w v xs) (hk : ∀ g, v.ownBlock = some g → g < w.heap.size → w'.heap[g]? = w.heap[g]?) : Own E sz enc B w' v xs := by
  obtain ⟨hl, h⟩ := h
  refine ⟨hl, ?_⟩
  rcases h with h | ⟨g, cap, cur, rfl, hg, hb, r⟩
  · exact .inl h
  · exact .inr ⟨g, cap, cur, rfl, hg, (hk g rfl (lt_of_block hb)).trans hb, r⟩
theorem Own.chg {α : Type} {E sz B : Nat} {enc : α → List Value} {w w' : World} {v : Value} {xs : List α} {l : List Nat} (h : Own E sz enc B w v xs) (k : Chg l w w') (hl : ∀ g, v.ownBlock = some g → g ∉ l) : Own E sz enc B w' v xs :=
  h.keep fun g hg hlt => k.block g hlt (hl g hg)
theorem Own.below {α : Type} {E sz B : Nat} {enc : α → List Value} {w w' : World} {v : Value} {xs : List α} (h : Own E sz enc B w v xs) (k : Below w.heap.size w w') : Own E sz enc B w' v xs :=
  h.keep fun g _ hlt => k.block g hlt
theorem Own.ge {α : Type} {E sz B : Nat} {enc : α → List Value} {w : World} {v : Value} {xs : List α} (h : Own E sz enc B w v xs) {g : Nat} (hg : v.ownBlock = some g) : B ≤ g ∧ g < w.heap.size := World.ownsRow.lt h g hg

/-- A row of one-cell elements that is full. -/
theorem Own.of_row {α : Type} {E B b n : Nat} {enc : α → List Value} {w : World} {f : Nat → Value} {xs : List α} (h : w.rowIs b E n f) (hB : B ≤ b) (hn : n ≤ maxLen) (hl : xs.length = n) (hx : ∀ i (hi : i < xs.length), enc xs[i] = [f i]) (hz : ∀ x, (enc x).length = 1) :
    Own E 1 enc B w (.slice (some ⟨b, 0, none⟩) xs.length n) xs := by
  obtain ⟨c, hb, hcn, hc⟩ := h
  refine ⟨flat_length hz xs, .inr ⟨b, n, c, rfl, hB, hb, by omega, hn, by omega, ?_⟩⟩
  apply List.ext_getElem?
  intro i
  rw [List.getElem?_take]
  by_cases hi : i < xs.length
  · have e1 := flat_get hz xs i hi 0 (by omega)
    rw [hx i hi] at e1
    simp at e1
    rw [if_pos (by omega), e1]
    simpa using hc i (by omega)
  · rw [if_neg (by omega), List.getElem?_eq_none (by rw [flat_length hz]; omega)]

/-- What the laws ask of a slice type t over elements e of sz cells and 'bytes' bytes. -/
structure SlT (P : Program) (t e sz bytes : Nat) : Prop where
  und : P.underlying t = some (.slice e)
  pos : 0 < sz
  info : ∃ i z, P.info? e = some i ∧ i.zero = some z ∧ i.size = sz ∧ i.bytes = bytes ∧ z.cells.size = sz
theorem SlT.mk' {P : Program} {t e sz bytes : Nat} {z : Value} (hu : P.underlying t = some (.slice e)) (hp : 0 < sz) (hi : (P.info? e).map (fun i => (i.zero, i.size, i.bytes)) = some (some z, sz, bytes)) (hz : z.cells.size = sz) : SlT P t e sz bytes := by
  obtain ⟨i, hi1, hzz⟩ := Option.map_eq_some_iff.1 hi
  simp only [Prod.mk.injEq] at hzz
  exact ⟨hu, hp, i, z, hi1, hzz.1, hzz.2.1, hzz.2.2, hz⟩

/-- Each cell of an encoding is one cell. -/
def Cells1 {α : Type} (enc : α → List Value) : Prop := ∀ x, ∀ u ∈ enc x, u.oneCell' = true
theorem cells1_i64 : Cells1 i64L := fun x u hu => by simp at hu; subst hu; rfl
theorem cells1_cell : Cells1 cellL := fun x u hu => by simp at hu; rcases hu with rfl | rfl | rfl <;> rfl
theorem cells1_view : Cells1 viewL := fun x u hu => by simp at hu; rcases hu with rfl | rfl | rfl <;> rfl

theorem Sl.flat {α : Type} {sz : Nat} {enc : α → List Value} {w : World} {b off : Nat} {xs : List α} (hz : ∀ x, (enc x).length = sz) (h : Sl sz enc w (some ⟨b, off, none⟩) xs) :
    ∀ j u, (xs.flatMap enc)[j]? = some u → w.cell? ((⟨b, off, none⟩ : Addr).add j) = some u := by
  intro j u hu
  have hlt := (List.getElem?_eq_some_iff.1 hu).1
  rw [flat_length hz] at hlt
  have hsz : 0 < sz := by rcases Nat.eq_zero_or_pos sz with rfl | h0; simp at hlt; exact h0
  have hi : j / sz < xs.length := Nat.div_lt_of_lt_mul (by rw [Nat.mul_comm]; exact hlt)
  have hj : j / sz * sz + j % sz = j := Nat.div_add_mod' j sz
  have e1 := flat_get hz xs (j / sz) hi (j % sz) (Nat.mod_lt _ hsz)
  rw [hj, hu] at e1
  obtain ⟨b', off', e, _, hc⟩ := h (j / sz) hi
  cases e
  have := hc (j % sz) u e1.symm
  rw [Nat.add_assoc, hj] at this
  unfold Addr.add
  split
  · rename_i h0; subst h0; simpa using this
  · exact this

theorem Sl.drop {α : Type} {sz : Nat} {enc : α → List Value} {w : World} {b off : Nat} {xs : List α} (h : Sl sz enc w (some ⟨b, off, none⟩) xs) (j : Nat) : Sl sz enc w (some ⟨b, off + j * sz, none⟩) (xs.drop j) := by
  intro i hi
  simp at hi
  obtain ⟨b', off', e, hlt, hc⟩ := h (j + i) (by omega)
  cases e
  refine ⟨b, _, rfl, hlt, fun q u hu => ?_⟩
  rw [List.getElem_drop] at hu
  have := hc q u hu
  rw [Nat.add_mul] at this
  rw [Nat.add_assoc off]
  exact this
theorem Sl.take {α : Type} {sz : Nat} {enc : α → List Value} {w : World} {a : Option Addr} {xs : List α} (h : Sl sz enc w a xs) (j : Nat) : Sl sz enc w a (xs.take j) := by
  intro i hi
  simp at hi
  obtain ⟨b, off, e, hlt, hc⟩ := h i (by omega)
  exact ⟨b, off, e, hlt, fun q u hu => hc q u (by rw [List.getElem_take] at hu; exact hu)⟩

/-- THE BUILTIN append ONTO A SLICE OF THE CALL's OWN. -/
theorem wpList_app {α : Type} {P : Program} {ops : Array Oper} {Q : Exit → Act → World → Prop} {a : Act} {w : World} {rest : List Oper} {o : Oper} {t e sz bytes : Nat} (K : SlT P t e sz bytes)
    (hgd : o.guard = none) (s x : Operand) (ho : o.op = .call { callee := .builtin .append, args := #[s, x], argTypes := #[t, t] })
    (enc : α → List Value) (hz : ∀ x, (enc x).length = sz) (h1 : Cells1 enc) (B : Nat) (v : Value) (xs : List α) (hs : a.eval s = v) (hown : Own e sz enc B w v xs)
    (A : Option Addr) (m c : Nat) (ys : List α) (hx : a.eval x = .slice A m c) (hm : m = ys.length) (hsl : Sl sz enc w A ys) (hmax : xs.length + ys.length ≤ 1000000000) (hby : bytes ≤ 1024) (hB : B ≤ w.heap.size)
    (h : ∀ v' w', Own e sz enc B w' v' (xs ++ ys) → w.grownBy w' v.ownBlock → (v' = .slice none 0 0 ↔ v = .slice none 0 0 ∧ ys = []) → wpList P ops Q rest (a.put o.dst v') w') : wpList P ops Q (o :: rest) a w := by
  subst hm
  obtain ⟨ht, hsz, i, z, hi, hz0, hsize, hbytes, hzs⟩ := K
  have hb : (xs.length + ys.length) * bytes ≤ 140737488355328 := Nat.le_trans (Nat.mul_le_mul hmax hby) (by omega)
  have hm : xs.length + ys.length ≤ maxLen := by unfold maxLen; omega
  cases A with
  | some ad =>
    by_cases hy : ys = []
    · subst hy
      refine wpList_append_own w hgd s x t ho B e i z sz bytes ht hi hz0 hsize hbytes hzs hsz v xs.length (xs.flatMap enc) hs hown ad 0 c [] hx (by simp) (fun j u hu => by simp at hu) (fun u hu => by simp at hu) (by simpa using hm) (by simpa using hb) hB ?_
      intro v' w' h2 h3 h4
      refine h v' w' ?_ h3 (by simpa using h4)
      unfold Own; simpa using h2
    · have h0 : 0 < ys.length := List.length_pos_iff.2 hy
      obtain ⟨b, off, e1, _, _⟩ := hsl 0 h0
      cases e1
      refine wpList_append_own w hgd s x t ho B e i z sz bytes ht hi hz0 hsize hbytes hzs hsz v xs.length (xs.flatMap enc) hs hown ⟨b, off, none⟩ ys.length c (ys.flatMap enc) hx (flat_length hz ys) (hsl.flat hz) (fun u hu => by obtain ⟨y, _, hy⟩ := List.mem_flatMap.1 hu; exact h1 y u hy) hm hb hB ?_
      intro v' w' h2 h3 h4
      refine h v' w' ?_ h3 (by rw [h4]; simp [hy])
      unfold Own; simpa using h2
  | none =>
    have hy : ys = [] := by
      rcases ys with _ | ⟨y, r⟩
      · rfl
      · obtain ⟨b, off, e1, _⟩ := hsl 0 (by simp); cases e1
    subst hy
    refine wpList_plain hgd fun K' hK => ?_
    have hrun : (Builtin.append_ #[t, t] o.type #[v, .slice none 0 c]).run P w = .ok v w := by
      rcases hown.2 with ⟨rfl, _⟩ | ⟨g, cap, cur, rfl, hg, hb2, hcap, _⟩
      · simp [Builtin.append_, run_underlying ht, sizeOf, typeInfo, hi, Builtin.lenOf, Builtin.firstCells]
      · simp [Builtin.append_, run_underlying ht, sizeOf, typeInfo, hi, Builtin.lenOf, Builtin.firstCells, hcap, storeCells]
    unfold Oper.wp execOp
    simp only [ho, resolve, invoke, builtin, Sem.run_bind, Sem.run_pure, Result.andThen_ok, List.map_toArray, List.map_cons, List.map_nil, hs, hx, List.length_nil, hrun]
    refine hK _ _ (h v w ?_ ⟨rfl, rfl, rfl, Nat.le_refl _, fun _ _ _ => rfl⟩ (by simp))
    simpa using hown

/-! ### rows of structs: made, written -/
theorem add_none (b off j : Nat) : (⟨b, off, none⟩ : Addr).add j = ⟨b, off + j, none⟩ := by
  unfold Addr.add
  split
  · rename_i h; subst h; rfl
  · rfl

/-- SlT, and the zero value's cells. -/
structure SlZ (P : Program) (t e sz bytes : Nat) (zc : List Value) : Prop where
  und : P.underlying t = some (.slice e)
  pos : 0 < sz
  zlen : zc.length = sz
  info : ∃ i z, P.info? e = some i ∧ i.zero = some z ∧ i.size = sz ∧ i.bytes = bytes ∧ z.cells.toList = zc
theorem SlZ.mk' {P : Program} {t e sz bytes : Nat} {z : Value} {zc : List Value} (hu : P.underlying t = some (.slice e)) (hp : 0 < sz) (hi : (P.info? e).map (fun i => (i.zero, i.size, i.bytes)) = some (some z, sz, bytes)) (hz : z.cells.toList = zc) (hl : zc.length = sz) : SlZ P t e sz bytes zc := by
  obtain ⟨i, hi1, hzz⟩ := Option.map_eq_some_iff.1 hi
  simp only [Prod.mk.injEq] at hzz
  exact ⟨hu, hp, hl, i, z, hi1, hzz.1, hzz.2.1, hzz.2.2, hz⟩
theorem SlZ.t {P : Program} {t e sz bytes : Nat} {zc : List Value} (h : SlZ P t e sz bytes zc) : SlT P t e sz bytes := by
  obtain ⟨hu, hp, hl, i, z, h1, h2, h3, h4, h5⟩ := h
  exact ⟨hu, hp, i, z, h1, h2, h3, h4, by rw [← Array.length_toList, h5, hl]⟩

theorem flat_replicate {α : Type} (enc : α → List Value) (d : α) : ∀ n, (List.replicate n d).flatMap enc = (List.replicate n (enc d)).flatten
  | 0 => rfl
  | n + 1 => by simp [List.replicate_succ, List.flatMap_cons, flat_replicate enc d n]

theorem madeCells_flat {α : Type} {enc : α → List Value} {d : α} {z : Array Value} {sz : Nat} (hz : z.toList = enc d) (hs : ∀ x, (enc x).length = sz) (hp : 0 < sz) (n : Nat) : (madeCells z (n * sz)).toList = (List.replicate n d).flatMap enc := by
  have hzs : z.size = sz := by rw [← Array.length_toList, hz, hs]
  apply List.ext_getElem?
  intro j
  by_cases hj : j < n * sz
  · have hi : j / sz < (List.replicate n d).length := by simp; exact Nat.div_lt_of_lt_mul (by rw [Nat.mul_comm]; exact hj)
    have e1 := flat_get hs (List.replicate n d) (j / sz) hi (j % sz) (Nat.mod_lt _ hp)
    rw [Nat.div_add_mod' j sz] at e1
    rw [e1, List.getElem_replicate, ← hz]
    have hm : j % sz < z.size := by rw [hzs]; exact Nat.mod_lt _ hp
    rw [show (madeCells z (n * sz)).toList[j]? = some z[j % sz]! from by simp [madeCells, hj, hzs]]
    rw [getElem!_pos z _ hm, Array.getElem?_toList, Array.getElem?_eq_getElem hm]
  · rw [List.getElem?_eq_none (by simp [madeCells]; omega), List.getElem?_eq_none (by rw [flat_length hs]; simp; omega)]

/-- make([]T, n). -/
theorem make_own {α : Type} {P : Program} {t e sz bytes : Nat} {enc : α → List Value} {d : α} (K : SlZ P t e sz bytes (enc d)) (hs : ∀ x, (enc x).length = sz) (n : Nat) (hn : n ≤ 1000000000) (hby : bytes ≤ 1024) (w : World) :
    ∃ o, (Instr.makeSlice t (.int .i64 (n : Int)) (.int .i64 (n : Int))).run P w = .ok (.slice (some ⟨w.heap.size, 0, none⟩) n n) (w.alloc o) ∧ Own e sz enc w.heap.size (w.alloc o) (.slice (some ⟨w.heap.size, 0, none⟩) n n) (List.replicate n d) := by
  obtain ⟨hu, hp, hl, i, z, h1, h2, h3, h4, h5⟩ := K
  have hb : i.bytes * n ≤ 1024 * 1000000000 := Nat.mul_le_mul (by omega) hn
  have hr := run_make (P := P) w t e i z hu h1 h2 .i64 .i64 n n (by omega) (Int.le_refl _) (by rw [← Int.natCast_mul]; omega) (by omega)
  simp only [Int.toNat_natCast, h3] at hr
  refine ⟨_, hr, ?_⟩
  refine ⟨flat_length hs _, .inr ⟨w.heap.size, n, madeCells z.cells (n * sz), by simp, Nat.le_refl _, ?_, by simp, by unfold maxLen; omega, by simp [madeCells], ?_⟩⟩
  · show (w.heap.push _)[w.heap.size]? = _
    simp
  · rw [madeCells_flat h5 hs hp]
    rw [List.length_replicate]
    exact List.take_of_length_le (by rw [flat_length hs]; simp)

theorem flat_set3 {α : Type} {enc : α → List Value} (hz : ∀ x, (enc x).length = 3) : ∀ (xs : List α) (k : Nat), k < xs.length → ∀ (c : α) (u0 u1 u2 : Value), enc c = [u0, u1, u2] →
    (((xs.flatMap enc).set (k * 3) u0).set (k * 3 + 1) u1).set (k * 3 + 2) u2 = (xs.set k c).flatMap enc
  | y :: r, 0, _, c, u0, u1, u2, he => by
    have h := hz y
    match hy : enc y, h with
    | [a, b, d], _ => simp [List.flatMap_cons, hy, he]
  | y :: r, k + 1, hk, c, u0, u1, u2, he => by
    have h := hz y
    match hy : enc y, h with
    | [a, b, d], _ =>
      have ih := flat_set3 hz r k (by simpa using hk) c u0 u1 u2 he
      rw [List.flatMap_cons, hy, List.set_cons_succ, List.flatMap_cons, hy, ← ih]
      rw [show (k + 1) * 3 = k * 3 + 3 from by omega, show k * 3 + 3 + 1 = (k * 3 + 1) + 3 from by omega, show k * 3 + 3 + 2 = (k * 3 + 2) + 3 from by omega]
      simp

theorem Own.set3 {α : Type} {E B g cap n : Nat} {enc : α → List Value} {w : World} {xs : List α} (hz : ∀ x, (enc x).length = 3) (h : Own E 3 enc B w (.slice (some ⟨g, 0, none⟩) n cap) xs) (hn : n = xs.length) {k : Nat} (hk : k < xs.length) {c : α} {u0 u1 u2 : Value} (he : enc c = [u0, u1, u2]) :
    Own E 3 enc B (((w.setCell ⟨g, k * 3, none⟩ u0).setCell ⟨g, k * 3 + 1, none⟩ u1).setCell ⟨g, k * 3 + 2, none⟩ u2) (.slice (some ⟨g, 0, none⟩) n cap) (xs.set k c) := by
  subst hn
  have h1 := (World.ownsRow.stored h (k * 3) u0).1
  have h2 := (World.ownsRow.stored h1 (k * 3 + 1) u1).1
  have h3 := (World.ownsRow.stored h2 (k * 3 + 2) u2).1
  rw [flat_set3 hz xs k hk c u0 u1 u2 he] at h3
  unfold Own
  rw [List.length_set]
  exact h3
theorem Own.frozen {α : Type} {E sz B g cap n : Nat} {enc : α → List Value} {w : World} {xs : List α} (h : Own E sz enc B w (.slice (some ⟨g, 0, none⟩) n cap) xs) (j : Nat) : w.frozen? ⟨g, j, none⟩ = false := by
  rcases h.2 with ⟨h', _⟩ | ⟨g', cap', cur, h', hb, hg, _⟩
  · cases h'
  · cases h'; simp [World.frozen?, hg]
theorem Own.at3 {α : Type} {E B g cap n : Nat} {enc : α → List Value} {w : World} {xs : List α} (hz : ∀ x, (enc x).length = 3) (h : Own E 3 enc B w (.slice (some ⟨g, 0, none⟩) n cap) xs) {k : Nat} (hk : k < xs.length) {u0 u1 u2 : Value} (he : enc xs[k] = [u0, u1, u2]) :
    w.cell? ⟨g, k * 3, none⟩ = some u0 ∧ w.cell? ⟨g, k * 3 + 1, none⟩ = some u1 ∧ w.cell? ⟨g, k * 3 + 2, none⟩ = some u2 := by
  obtain ⟨o, cap', e, _, hsl, _⟩ := h.sl hz
  cases e
  obtain ⟨b, off, e, _, h1, h2, h3⟩ := hsl.at3 hk he
  cases e
  simp only [Nat.zero_add] at h1 h2 h3
  exact ⟨h1, h2, h3⟩
theorem Own.sl0 {α : Type} {E sz B n cap : Nat} {a : Option Addr} {enc : α → List Value} {w : World} {xs : List α} (h : Own E sz enc B w (.slice a n cap) xs) (hz : ∀ x, (enc x).length = sz) : Sl sz enc w a xs := by
  obtain ⟨o, c, e, _, h6, _⟩ := h.sl hz
  have h7 := congrArg (fun v => match v with | .slice a _ _ => a | _ => none) e
  simp only at h7
  rw [h7]; exact h6
theorem Own.pos {α : Type} {E sz B n cap : Nat} {o : Option Addr} {enc : α → List Value} {w : World} {xs : List α} (h : Own E sz enc B w (.slice o n cap) xs) (h0 : 0 < xs.length) : ∃ g, o = some ⟨g, 0, none⟩ ∧ B ≤ g ∧ g < w.heap.size := by
  rcases h.2 with ⟨h', e⟩ | ⟨g, cap', cur, h', hB, hb, _⟩
  · omega
  · cases h'; exact ⟨g, rfl, hB, lt_of_block hb⟩
theorem Own.alloc {α : Type} {E sz B : Nat} {enc : α → List Value} {w : World} {v : Value} {xs : List α} (h : Own E sz enc B w v xs) (o : Obj) : Own E sz enc B (w.alloc o) v xs :=
  h.keep fun g _ hlt => Below.heap_alloc _ _ _ hlt
theorem Own.grown {α : Type} {E sz B : Nat} {enc : α → List Value} {w w' : World} {v : Value} {xs : List α} {r : Nat} (h : Own E sz enc B w v xs) (k : w.grownBy w' (some r)) (hr : r < B) : Own E sz enc B w' v xs :=
  h.keep fun g hg hlt => k.block g hlt (fun e => by cases e; have := (h.ge hg).1; omega)
theorem Below.grownO {B : Nat} {a b c : World} (h : Below B a b) {v : Value} (hg : b.grownBy c v.ownBlock) (hB : B ≤ b.heap.size) (hv : ∀ g, v.ownBlock = some g → B ≤ g) : Below B a c := h.grown hg hB hv
/-- What a store of an element wants. -/
theorem Own.room3 {α : Type} {E B g cap n : Nat} {enc : α → List Value} {w : World} {xs : List α} (hz : ∀ x, (enc x).length = 3) (h : Own E 3 enc B w (.slice (some ⟨g, 0, none⟩) n cap) xs) {k : Nat} (hk : k < xs.length) :
    (∃ u, w.cell? ⟨g, k * 3, none⟩ = some u) ∧ (∃ u, w.cell? ⟨g, k * 3 + 1, none⟩ = some u) ∧ (∃ u, w.cell? ⟨g, k * 3 + 2, none⟩ = some u) ∧ w.frozen? ⟨g, k * 3, none⟩ = false ∧ w.frozen? ⟨g, k * 3 + 1, none⟩ = false ∧ w.frozen? ⟨g, k * 3 + 2, none⟩ = false := by
  have hy := hz xs[k]
  match he : enc xs[k], hy with
  | [a, b, c], _ =>
    obtain ⟨h0, h1, h2⟩ := h.at3 hz hk he
    exact ⟨⟨_, h0⟩, ⟨_, h1⟩, ⟨_, h2⟩, h.frozen _, h.frozen _, h.frozen _⟩
theorem sl_new {α : Type} {sz : Nat} {enc : α → List Value} (c : α) (w : World) (t : TypeId) {cs : Array Value} (h : cs.toList = enc c) : Sl sz enc (w.alloc (.cells cs t)) (some ⟨w.heap.size, 0, none⟩) [c] := by
  intro i hi
  simp at hi
  subst hi
  refine ⟨w.heap.size, 0, rfl, by simp, fun j u hu => ?_⟩
  have hb : (w.alloc (.cells cs t)).heap[w.heap.size]? = some (.cells cs t) := by
    show (w.heap.push _)[w.heap.size]? = _
    simp
  simp only [World.cell?, hb, Nat.zero_mul, Nat.zero_add]
  simp only [List.getElem_singleton] at hu
  rw [← h] at hu
  simpa using hu
theorem blk_at {w : World} {o : Obj} {n : Nat} (h : n = w.heap.size) : (w.alloc o).heap[n]? = some o := by
  subst h
  show (w.heap.push o)[w.heap.size]? = some o
  simp
theorem blk_old {w : World} {o : Obj} {n : Nat} (h : n < w.heap.size) : (w.alloc o).heap[n]? = w.heap[n]? := Below.heap_alloc _ _ _ h
theorem ret_int {k : IntKind} {a b : Int} (h : a = b) : Ending.returned (.int k a) = .returned (.int k b) := by rw [h]
theorem ret_bool {a b : Bool} (h : a = b) : Ending.returned (.bool a) = .returned (.bool b) := by rw [h]
/-- Old cells read as before, in the walk's own form. -/
theorem bcell {W w1 : World} (hb : Below W.heap.size W w1) : (∀ b o, b < W.heap.size → w1.cell? ⟨b, o, none⟩ = W.cell? ⟨b, o, none⟩) ∧ (∀ b o, b < W.heap.size → w1.frozen? ⟨b, o, none⟩ = W.frozen? ⟨b, o, none⟩) :=
  ⟨fun b o h => hb.cell (p := ⟨b, o, none⟩) h, fun b o h => hb.frozen (p := ⟨b, o, none⟩) h⟩
end Go.Proofs.Ytaicecnfodhlcaa
