/- Rows that are grown beside one another: an append that stays in its row or moves into a new block; slices of slices. -/
import Derived.Test.YtheimbhnckaonaaSame
import Derived.Test.YtheimbhnckaonaaSpoil
import Derived.Maps.AppendAt
set_option linter.unusedVariables false
set_option linter.unusedSimpArgs false
namespace Go.Proofs.Ytheimbhnckaonaa
open Go.RowKit

/-- append of at least one element: the new slice lies in the old row, or in a new block and nothing that was there has turned. -/
theorem run_app2 {P : Program} (w : World) (base t ty e : Nat) (i : TypeInfo) (z : Value) (size bytes : Nat) (ht : P.underlying t = some (.slice e)) (hi : P.info? e = some i) (hz : i.zero = some z)
    (hsize : i.size = size) (hby : i.bytes = bytes) (hzs : z.cells.size = size) (hsz : 0 < size) (v : Value) (n : Nat) (xs : List Value) (hown : w.ownsRow base e size v n xs)
    (a : Addr) (m c : Nat) (h0 : 0 < m) (news : List Value) (hl : news.length = m * size) (hnews : ∀ j u, news[j]? = some u → w.cell? (a.add j) = some u) (h1 : ∀ u ∈ news, u.oneCell' = true)
    (h63 : n + m ≤ maxLen) (hbytes : (n + m) * bytes ≤ 140737488355328) (hbase : base ≤ w.heap.size) :
    ∃ v' w', (Builtin.append_ #[t, t] ty #[v, .slice (some a) m c]).run P w = .ok v' w' ∧ w'.ownsRow base e size v' (n + m) (xs ++ news) ∧
      ((v'.ownBlock = v.ownBlock ∧ v.ownBlock ≠ none ∧ w.grownBy w' v.ownBlock) ∨ (v'.ownBlock = some w.heap.size ∧ w.grownBy w' none)) := by
  have hsm : n + m ≤ 9223372036854775807 := by unfold maxLen at h63; omega
  obtain ⟨v', w', hr, h2, h3, h4, h5⟩ := run_append_own_at (P := P) w base t ty e i z size bytes ht hi hz hsize hby hzs hsz v n xs hown a m c news hl hnews h1 h63 hbytes hbase
  refine ⟨v', w', hr, h2, ?_⟩
  have hnone : ∀ o : Obj, w.grownBy (w.drew.alloc o) none := fun o => ⟨rfl, rfl, rfl, by simp, fun k hk _ => Below.heap_alloc w.drew o k hk⟩
  rcases hown.2 with ⟨rfl, rfl⟩ | ⟨g, cap, cur, rfl, hbg, hg, hnc, hcm, hcs, htake⟩
  · have hr2 := run_append_nil (P := P) w t ty e i z ht hi hz a m c news (by rw [hl, hsize]) hnews h0 (by omega) (by rw [hby]; simp at hbytes; omega)
    rw [hr2] at hr
    cases hr
    exact .inr ⟨rfl, hnone _⟩
  · by_cases hroom : n + m ≤ cap
    · have hr2 := run_append_room (P := P) w t ty e i ht hi g n cap cur hg a m c news (by rw [hl, hsize]) hnews h1 hroom (by rw [hl, hcs, hsize, ← Nat.add_mul]; exact Nat.mul_le_mul_right _ hroom)
      rw [hr2] at hr
      cases hr
      exact .inl ⟨rfl, by simp [Value.ownBlock], h3⟩
    · have hr2 := run_append_grow (P := P) w t ty e i z ht hi hz ⟨g, 0, none⟩ n cap xs (by rw [hown.1, hsize]) (hown.cells (g := g) rfl) a m c news (by rw [hl, hsize]) hnews (by omega) (by omega) (growslice_fits (by omega) (by rw [hby]; exact hbytes))
      rw [hr2] at hr
      cases hr
      exact .inr ⟨rfl, hnone _⟩

/-- The builtin append of elements onto a slice of the call's own, with where it lies. -/
theorem wpList_app2 {α : Type} {P : Program} {ops : Array Oper} {Q : Exit → Act → World → Prop} {a : Act} {w : World} {rest : List Oper} {o : Oper} {t e sz bytes : Nat} (K : SlT P t e sz bytes)
    (hgd : o.guard = none) (s x : Operand) (ho : o.op = .call { callee := .builtin .append, args := #[s, x], argTypes := #[t, t] })
    (enc : α → List Value) (hz : ∀ x, (enc x).length = sz) (h1 : Cells1 enc) (B : Nat) (v : Value) (xs : List α) (hs : a.eval s = v) (hown : Own e sz enc B w v xs)
    (b off : Nat) (m c : Nat) (ys : List α) (hx : a.eval x = .slice (some ⟨b, off, none⟩) m c) (hm : m = ys.length) (h0 : 0 < m) (hsl : Sl sz enc w (some ⟨b, off, none⟩) ys) (hmax : xs.length + ys.length ≤ 1000000000) (hby : bytes ≤ 1024) (hB : B ≤ w.heap.size)
    (h : ∀ v' w', Own e sz enc B w' v' (xs ++ ys) → ((v'.ownBlock = v.ownBlock ∧ v.ownBlock ≠ none ∧ w.grownBy w' v.ownBlock) ∨ (v'.ownBlock = some w.heap.size ∧ w.grownBy w' none)) → wpList P ops Q rest (a.put o.dst v') w') : wpList P ops Q (o :: rest) a w := by
  subst hm
  obtain ⟨ht, hsz, i, z, hi, hz0, hsize, hbytes, hzs⟩ := K
  have hb : (xs.length + ys.length) * bytes ≤ 140737488355328 := Nat.le_trans (Nat.mul_le_mul hmax hby) (by omega)
  have hm : xs.length + ys.length ≤ maxLen := by unfold maxLen; omega
  obtain ⟨v', w', hr, h2, h3⟩ := run_app2 (P := P) w B t o.type e i z sz bytes ht hi hz0 hsize hbytes hzs hsz v xs.length (xs.flatMap enc) hown ⟨b, off, none⟩ ys.length c h0 (ys.flatMap enc) (flat_length hz ys) (hsl.flat hz) (fun u hu => by obtain ⟨y, _, hy⟩ := List.mem_flatMap.1 hu; exact h1 y u hy) hm hb hB
  refine wpList_plain hgd fun K' hK => ?_
  unfold Oper.wp execOp
  simp only [ho, resolve, invoke, builtin, Sem.run_bind, Sem.run_pure, Result.andThen_ok, List.map_toArray, List.map_cons, List.map_nil, hs, hx, hr]
  refine hK _ _ (h v' w' ?_ h3)
  unfold Own; simpa using h2

/-- A slice as a value. -/
structure Slc where
  a : Option Addr
  n : Nat
  cap : Nat
abbrev Slc.v (s : Slc) : Value := .slice s.a s.n s.cap
abbrev sliceL (s : Slc) : List Value := [.slice s.a s.n s.cap]
theorem cells1_slice : Cells1 sliceL := fun x u hu => by simp at hu; subst hu; rfl
def kTold : ByteArray := ⟨#[116, 111, 108, 100]⟩
def kMore : ByteArray := ⟨#[109, 111, 114, 101]⟩
/-- What the cells of the i-th slice are written full of, what it is grown by. -/
def told (i n : Nat) : List Cell := (List.range n).map fun (k : Nat) => ⟨i, kTold, k⟩
def mores (i n : Nat) : List Cell := (List.range n).map fun (k : Nat) => ⟨i, kMore, k⟩
theorem told_len (i n : Nat) : (told i n).length = n := by simp [told]
theorem mores_len (i n : Nat) : (mores i n).length = n := by simp [mores]
theorem mores_succ (i n : Nat) : mores i (n + 1) = mores i n ++ [⟨i, kMore, n⟩] := by simp [mores, List.range_succ]
theorem told_get (i n k : Nat) (h : k < (told i n).length) : (told i n)[k] = ⟨i, kTold, k⟩ := by simp [told]
theorem mores_get (i n k : Nat) (h : k < (mores i n).length) : (mores i n)[k] = ⟨i, kMore, k⟩ := by simp [mores]

/-- Slices apart from one another, and what they hold. -/
structure Rws (B : Nat) (w : World) (V : List Slc) (f : Nat → List Cell) : Prop where
  own : ∀ i (h : i < V.length), Own 51 3 cellL B w V[i].v (f i)
  dis : ∀ i j (hi : i < V.length) (hj : j < V.length), i ≠ j → ∀ g, V[i].v.ownBlock = some g → V[j].v.ownBlock ≠ some g

theorem Rws.keep {B : Nat} {w w' : World} {V : List Slc} {f : Nat → List Cell} (h : Rws B w V f) (hb : ∀ i (hi : i < V.length) g, V[i].v.ownBlock = some g → w'.heap[g]? = w.heap[g]?) : Rws B w' V f :=
  ⟨fun i hi => (h.own i hi).keep fun g hg _ => hb i hi g hg, h.dis⟩
/-- One of them turned. -/
theorem Rws.turn {B : Nat} {w w' : World} {V : List Slc} {f f' : Nat → List Cell} (h : Rws B w V f) {i : Nat} (hi : i < V.length) (ho : Own 51 3 cellL B w' V[i].v (f' i)) (hf : ∀ j, j ≠ i → f' j = f j)
    (hb : ∀ g, g < w.heap.size → V[i].v.ownBlock ≠ some g → w'.heap[g]? = w.heap[g]?) : Rws B w' V f' := by
  refine ⟨fun j hj => ?_, h.dis⟩
  by_cases e : j = i
  · subst e; exact ho
  · rw [hf j e]
    exact (h.own j hj).keep fun g hg hlt => hb g hlt (h.dis j i hj hi e g hg)

/-- The blocks of slices. -/
def vblk (V : List Slc) : List Nat := V.filterMap fun s => s.v.ownBlock
theorem mem_vblk {V : List Slc} {i : Nat} (h : i < V.length) {g : Nat} (hg : V[i].v.ownBlock = some g) : g ∈ vblk V := List.mem_filterMap.2 ⟨V[i], List.getElem_mem h, hg⟩
theorem not_vblk {V : List Slc} {g : Nat} (h : ∀ i (hi : i < V.length), V[i].v.ownBlock ≠ some g) : g ∉ vblk V := fun hm => by
  obtain ⟨v, hv, e⟩ := List.mem_filterMap.1 hm
  obtain ⟨i, hi, rfl⟩ := List.getElem_of_mem hv
  exact h i hi e

/-- The slices as they were (V), as they are now (U): what they hold. -/
structure Grw (B W0 : Nat) (w : World) (V U : List Slc) (n c : Nat → Nat) : Prop where
  len : U.length = V.length
  own : ∀ i (h : i < U.length), Own 51 3 cellL B w U[i].v (told i (n i) ++ mores i (c i))
  old : ∀ i (h : i < V.length), ∃ o cap, V[i].v = .slice o (n i) cap ∧ Sl 3 cellL w o (told i (n i)) ∧ (∀ a, o = some a → a = ⟨a.block, 0, none⟩ ∧ a.block < w.heap.size)
  dis : ∀ i j (hi : i < U.length) (hj : j < U.length) (hv : j < V.length), i ≠ j → ∀ g, U[i].v.ownBlock = some g → U[j].v.ownBlock ≠ some g ∧ V[j].v.ownBlock ≠ some g
  src : ∀ i (hi : i < U.length) (hv : i < V.length) g, U[i].v.ownBlock = some g → W0 ≤ g ∨ V[i].v.ownBlock = some g

theorem own_addr {e sz B : Nat} {α : Type} {enc : α → List Value} {w : World} {v : Value} {xs : List α} (h : Own e sz enc B w v xs) (hz : ∀ x, (enc x).length = sz) : ∃ o cap, v = .slice o xs.length cap ∧ Sl sz enc w o xs ∧ (∀ a, o = some a → a = ⟨a.block, 0, none⟩ ∧ a.block < w.heap.size) := by
  obtain ⟨o, cap, rfl, _, hs, _, hu⟩ := h.sl hz
  refine ⟨o, cap, rfl, hs, ?_⟩
  rintro a rfl
  rcases h.2 with ⟨h', _⟩ | ⟨g, cap', cur, h', _, hb, _⟩
  · cases h'
  · cases h'; exact ⟨rfl, lt_of_block hb⟩

theorem Grw.start {B W0 : Nat} {w : World} {V : List Slc} {n : Nat → Nat} (h : Rws B w V fun i => told i (n i)) : Grw B W0 w V V n fun _ => 0 := by
  refine ⟨rfl, fun i hi => by simpa [mores] using h.own i hi, fun i hi => ?_, fun i j hi hj _ hij g hg => ⟨h.dis i j hi hj hij g hg, h.dis i j hi hj hij g hg⟩, fun i hi _ g hg => .inr hg⟩
  obtain ⟨o, cap, e, hs, ha⟩ := own_addr (h.own i hi) (fun _ => rfl)
  rw [told_len] at e
  exact ⟨o, cap, e, hs, ha⟩

theorem Grw.keep {B W0 : Nat} {w w' : World} {V U : List Slc} {n c : Nat → Nat} (h : Grw B W0 w V U n c) (hb : Below w.heap.size w w') : Grw B W0 w' V U n c := by
  refine ⟨h.len, fun i hi => (h.own i hi).below hb, fun i hi => ?_, h.dis, h.src⟩
  obtain ⟨o, cap, e, hs, ha⟩ := h.old i hi
  exact ⟨o, cap, e, hs.below hb, fun a e => ⟨(ha a e).1, Nat.lt_of_lt_of_le (ha a e).2 hb.size⟩⟩
/-- A block that is none of theirs turned. -/
theorem Grw.other {B W0 : Nat} {w w' : World} {V U : List Slc} {n c : Nat → Nat} (h : Grw B W0 w V U n c) {M : Nat} (hs : w.heap.size ≤ w'.heap.size) (hb : ∀ g, g < w.heap.size → g ≠ M → w'.heap[g]? = w.heap[g]?)
    (hU : ∀ i (hi : i < U.length), U[i].v.ownBlock ≠ some M) (hV : ∀ i (hi : i < V.length), V[i].v.ownBlock ≠ some M) : Grw B W0 w' V U n c := by
  refine ⟨h.len, fun i hi => (h.own i hi).keep fun g hg hlt => hb g hlt (fun e => hU i hi (by rw [hg, e])), fun i hi => ?_, h.dis, h.src⟩
  obtain ⟨o, cap, e, hsl, ha⟩ := h.old i hi
  refine ⟨o, cap, e, hsl.keep hs fun b off eo hlt => hb b hlt (fun em => hV i hi ?_), fun a e => ⟨(ha a e).1, Nat.lt_of_lt_of_le (ha a e).2 hs⟩⟩
  subst eo
  have h0 := (ha _ rfl).1
  simp at h0
  rw [e, ← em, h0]; rfl

theorem Grw.vlt {B W0 : Nat} {w : World} {V U : List Slc} {n c : Nat → Nat} (h : Grw B W0 w V U n c) {i : Nat} (hi : i < V.length) {g : Nat} (hg : V[i].v.ownBlock = some g) : g < w.heap.size := by
  obtain ⟨o, cap, e, _, ha⟩ := h.old i hi
  rw [e] at hg
  cases o with
  | none => cases hg
  | some a =>
    have h0 := ha a rfl
    have e1 := h0.1
    obtain ⟨ab, ao, asp⟩ := a
    cases e1
    cases hg
    exact h0.2

/-- The i-th is grown by one cell. -/
theorem Grw.grow {B W0 : Nat} {w w' : World} {V U : List Slc} {n c : Nat → Nat} (h : Grw B W0 w V U n c) {i : Nat} (hi : i < U.length) {v' : Slc} (hW : W0 ≤ w.heap.size)
    (ho : Own 51 3 cellL B w' v'.v (told i (n i) ++ mores i (c i + 1)))
    (hat : (v'.v.ownBlock = U[i].v.ownBlock ∧ U[i].v.ownBlock ≠ none ∧ w.grownBy w' U[i].v.ownBlock) ∨ (v'.v.ownBlock = some w.heap.size ∧ w.grownBy w' none)) :
    Grw B W0 w' V (U.set i v') n (fun j => if j = i then c i + 1 else c j) := by
  have hs : w.heap.size ≤ w'.heap.size := by rcases hat with ⟨_, _, k⟩ | ⟨_, k⟩ <;> exact k.size
  have hk : ∀ g, g < w.heap.size → U[i].v.ownBlock ≠ some g → w'.heap[g]? = w.heap[g]? := by
    intro g hg hn
    rcases hat with ⟨_, _, k⟩ | ⟨_, k⟩
    · exact k.block g hg (Ne.symm hn)
    · exact k.block g hg (by simp)
  refine ⟨by simpa using h.len, ?_, ?_, ?_, ?_⟩
  · intro j hj
    simp at hj
    by_cases e : j = i
    · subst e; simpa using ho
    · rw [List.getElem_set_ne (Ne.symm e)]
      simp only [if_neg e]
      exact (h.own j hj).keep fun g hg hlt => hk g hlt (fun hu => (h.dis i j hi hj (by rw [← h.len]; exact hj) (Ne.symm e) g hu).1 hg)
  · intro j hj
    obtain ⟨o, cap, e, hsl, ha⟩ := h.old j hj
    refine ⟨o, cap, e, ?_, fun a e => ⟨(ha a e).1, Nat.lt_of_lt_of_le (ha a e).2 hs⟩⟩
    by_cases hji : j = i
    · subst hji
      intro q hq
      obtain ⟨b, off, eo, hb, hc⟩ := hsl q hq
      have h0 := (ha _ eo).1
      simp at h0
      subst h0
      by_cases hu : U[j].v.ownBlock = some b
      · rcases hat with ⟨e1, _, k⟩ | ⟨_, k⟩
        · obtain ⟨o2, cap2, e2, hs2, ha2⟩ := own_addr ho (fun _ => rfl)
          have hv : v'.v.ownBlock = some b := e1.trans hu
          rw [e2] at hv
          cases o2 with
          | none => cases hv
          | some a2 =>
            have h2 := (ha2 _ rfl).1
            obtain ⟨ab, ao, asp⟩ := a2
            cases h2
            cases hv
            obtain ⟨b3, off3, e3, hb3, hc3⟩ := hs2 q (by rw [List.length_append]; omega)
            cases e3
            refine ⟨_, _, eo, hb3, fun r u hu => hc3 r u ?_⟩
            rw [List.getElem_append_left hq]; exact hu
        · refine ⟨b, 0, eo, by omega, fun r u hu => ?_⟩
          rw [World.cell?_of_block (w := w) (k.block b hb (by simp))]; exact hc r u hu
      · refine ⟨b, 0, eo, by omega, fun r u hu' => ?_⟩
        rw [World.cell?_of_block (w := w) (hk b hb hu)]; exact hc r u hu'
    · refine hsl.keep hs fun b off eo hb => hk b hb (fun hu => ?_)
      have h0 := (ha _ eo).1
      simp at h0
      subst h0
      exact (h.dis i j hi (by rw [h.len]; exact hj) hj (Ne.symm hji) b hu).2 (by rw [e, eo]; rfl)
  · intro p q hp0 hq0 hv hpq g hg
    have hp : p < U.length := by simpa using hp0
    have hq : q < U.length := by simpa using hq0
    by_cases ep : p = i
    · subst ep
      simp at hg
      rw [List.getElem_set_ne hpq]
      rcases hat with ⟨e1, _, _⟩ | ⟨e1, _⟩
      · exact h.dis p q hp hq hv hpq g (by rw [← e1]; exact hg)
      · rw [e1] at hg; cases hg
        refine ⟨fun hu => ?_, fun hu => ?_⟩
        · have := ((h.own q hq).ge hu).2; omega
        · have := h.vlt hv hu; omega
    · rw [List.getElem_set_ne (Ne.symm ep)] at hg
      by_cases eq : q = i
      · subst eq
        simp only [List.getElem_set_self]
        refine ⟨fun hu => ?_, (h.dis p q hp hq hv hpq g hg).2⟩
        rcases hat with ⟨e1, _, _⟩ | ⟨e1, _⟩
        · exact (h.dis p q hp hq hv hpq g hg).1 (by rw [← e1]; exact hu)
        · rw [e1] at hu; cases hu
          have := ((h.own p hp).ge hg).2; omega
      · rw [List.getElem_set_ne (Ne.symm eq)]
        exact h.dis p q hp hq hv hpq g hg
  · intro p hp0 hv g hg
    have hp : p < U.length := by simpa using hp0
    by_cases ep : p = i
    · subst ep
      simp at hg
      rcases hat with ⟨e1, _, _⟩ | ⟨e1, _⟩
      · exact h.src p hp hv g (by rw [← e1]; exact hg)
      · rw [e1] at hg; cases hg; exact .inl hW
    · rw [List.getElem_set_ne (Ne.symm ep)] at hg
      exact h.src p hp hv g hg

theorem flat_setS : ∀ (xs : List Slc) (k : Nat) (s : Slc), (xs.flatMap sliceL).set k s.v = (xs.set k s).flatMap sliceL
  | [], _, _ => rfl
  | y :: r, 0, _ => rfl
  | y :: r, k + 1, s => by
    rw [List.flatMap_cons, List.set_cons_succ, List.flatMap_cons, ← flat_setS r k s]
    rfl

/-- The copies of the slices (in a row at om), and what they have grown by. -/
structure More (B bm : Nat) (w0 w : World) (V : List Slc) (n c : Nat → Nat) (om : Option Addr) (capm : Nat) (U : List Slc) : Prop where
  row : Own 35 1 sliceL bm w (.slice om V.length capm) U
  grw : Grw B w0.heap.size w V U n c
  apart : ∀ i (hi : i < U.length) a, om = some a → U[i].v.ownBlock ≠ some a.block
  vap : ∀ i (hi : i < V.length) a, om = some a → V[i].v.ownBlock ≠ some a.block
  chg : Chg (vblk V) w0 w
  big : w0.heap.size ≤ bm

theorem More.below {B bm : Nat} {w0 w w' : World} {V U : List Slc} {n c : Nat → Nat} {om : Option Addr} {capm : Nat} (h : More B bm w0 w V n c om capm U) (hb : Below w.heap.size w w') : More B bm w0 w' V n c om capm U :=
  ⟨h.row.below hb, h.grw.keep hb, h.apart, h.vap, h.chg.trans ((Chg.of_below hb).mono (by simp)), h.big⟩

theorem More.step {B bm : Nat} {w0 w w4 : World} {V U : List Slc} {n c : Nat → Nat} {capm M : Nat} (h : More B bm w0 w V n c (some ⟨M, 0, none⟩) capm U) {i : Nat} (hi : i < V.length) (hu : i < U.length) (o : Obj) {v' : Slc}
    (ho : Own 51 3 cellL B w4 v'.v (told i (n i) ++ mores i (c i + 1)))
    (hat : (v'.v.ownBlock = U[i].v.ownBlock ∧ U[i].v.ownBlock ≠ none ∧ (w.alloc o).grownBy w4 U[i].v.ownBlock) ∨ (v'.v.ownBlock = some (w.heap.size + 1) ∧ (w.alloc o).grownBy w4 none)) :
    w4.cell? ⟨M, i, none⟩ = some U[i].v ∧ w4.frozen? ⟨M, i, none⟩ = false ∧ M < w4.heap.size ∧
    More B bm w0 (w4.setCell ⟨M, i, none⟩ v'.v) V n (fun j => if j = i then c i + 1 else c j) (some ⟨M, 0, none⟩) capm (U.set i v') := by
  have hM := h.row.ge (g := M) rfl
  have hA : Below w.heap.size w (w.alloc o) := (Below.refl _ _).alloc (Nat.le_refl _) _
  have hs : (w.alloc o).heap.size ≤ w4.heap.size := by rcases hat with ⟨_, _, k⟩ | ⟨_, k⟩ <;> exact k.size
  have hs' : w.heap.size + 1 ≤ w4.heap.size := by simpa using hs
  have hMn : U[i].v.ownBlock ≠ some M := h.apart i hu _ rfl
  have hMb : w4.heap[M]? = w.heap[M]? := by
    rw [← hA.block M hM.2]
    rcases hat with ⟨_, _, k⟩ | ⟨_, k⟩
    · exact k.block M (by simp; omega) (Ne.symm hMn)
    · exact k.block M (by simp; omega) (by simp)
  have hrow4 : Own 35 1 sliceL bm w4 (.slice (some ⟨M, 0, none⟩) V.length capm) U := h.row.keep fun g hg _ => by cases hg; exact hMb
  have hlen : U.length = V.length := h.grw.len
  have hg := (h.grw.keep hA).grow hu (v' := v') (by have := h.chg.size; simp; omega) ho (by simpa using hat)
  have hnew : v'.v.ownBlock ≠ some M := by
    rcases hat with ⟨e, _, _⟩ | ⟨e, _⟩
    · rw [e]; exact hMn
    · rw [e]; intro e2; cases e2; omega
  have hchA : Chg (vblk V) w0 w4 := by
    have h1 := h.chg.alloc o
    rcases hat with ⟨_, _, k⟩ | ⟨_, k⟩
    · refine h1.grown k fun g hg => ?_
      rcases h.grw.src i hu hi g hg with h2 | h2
      · exact .inl h2
      · exact .inr (List.mem_filterMap.2 ⟨V[i], List.getElem_mem hi, h2⟩)
    · exact h1.grown k fun g hg => by cases hg
  have hb5 : ∀ g, g ≠ M → (w4.setCell ⟨M, i, none⟩ v'.v).heap[g]? = w4.heap[g]? := fun g hg => Below.heap_setCell _ _ _ _ hg
  have hrow5 : Own 35 1 sliceL bm w4 (.slice (some ⟨M, 0, none⟩) U.length capm) U := by rw [hlen]; exact hrow4
  obtain ⟨hst, _⟩ := World.ownsRow.stored hrow5 i v'.v
  refine ⟨?_, hrow4.frozen i, by omega, ⟨?_, hg.other (by simp [World.setCell]) (fun g _ hgm => hb5 g hgm) ?_ ?_, ?_, ?_, ?_, h.big⟩⟩
  · have h1 := (hrow4.sl0 fun _ => rfl)
    obtain ⟨b, off, e, _, hc⟩ := h1.at1 hu rfl
    cases e
    simpa using hc
  · rw [flat_setS U i v'] at hst
    unfold Own
    rw [List.length_set, hlen]
    simpa [hlen] using hst
  · intro j hj
    by_cases e : j = i
    · subst e; simpa using hnew
    · rw [List.getElem_set_ne (Ne.symm e)]
      exact h.apart j (by simpa using hj) _ rfl
  · intro j hj; exact h.vap j hj _ rfl
  · intro j hj a ea
    cases ea
    by_cases e : j = i
    · subst e; simpa using hnew
    · rw [List.getElem_set_ne (Ne.symm e)]
      exact h.apart j (by simpa using hj) _ rfl
  · intro j hj a ea; cases ea; exact h.vap j hj _ rfl
  · refine ⟨hchA.os, hchA.tape, hchA.output, by have := hchA.size; simp [World.setCell]; omega, fun g hg hl => ?_⟩
    rw [hb5 g (by have := h.big; omega)]
    exact hchA.block g hg hl

theorem Grw.congr {B W0 : Nat} {w : World} {V U : List Slc} {n c c' : Nat → Nat} (h : Grw B W0 w V U n c) (hc : ∀ i, i < V.length → c' i = c i) : Grw B W0 w V U n c' :=
  ⟨h.len, fun i hi => by rw [hc i (by rw [← h.len]; exact hi)]; exact h.own i hi, h.old, h.dis, h.src⟩
theorem More.congr {B bm : Nat} {w0 w : World} {V U : List Slc} {n c c' : Nat → Nat} {om : Option Addr} {capm : Nat} (h : More B bm w0 w V n c om capm U) (hc : ∀ i, i < V.length → c' i = c i) : More B bm w0 w V n c' om capm U :=
  ⟨h.row, h.grw.congr hc, h.apart, h.vap, h.chg, h.big⟩
/-- How much they have grown: those ahead of the j-th by one more. -/
def cntM (c j : Nat) (p : Nat) : Nat := if p < j then c + 1 else c
theorem cntM_zero (c : Nat) : cntM c 0 = fun _ => c := by funext p; simp [cntM]
theorem cntM_at (c j : Nat) : cntM c j j = c := by simp [cntM]
theorem cntM_succ (c j : Nat) : (fun p => if p = j then cntM c j j + 1 else cntM c j p) = cntM c (j + 1) := by
  funext p
  unfold cntM
  by_cases h : p = j
  · subst h; simp
  · by_cases h2 : p < j
    · simp [h, h2, Nat.lt_succ_of_lt h2]
    · simp [h, h2]; omega
/-- A slice as it lies. -/
theorem slc_of {e sz B : Nat} {α : Type} {enc : α → List Value} {w : World} {v : Value} {xs : List α} (h : Own e sz enc B w v xs) (hz : ∀ x, (enc x).length = sz) : ∃ s : Slc, v = s.v ∧ s.n = xs.length := by
  obtain ⟨o, cap, rfl, _⟩ := own_addr h hz
  exact ⟨⟨o, xs.length, cap⟩, rfl, rfl⟩
end Go.Proofs.Ytheimbhnckaonaa
