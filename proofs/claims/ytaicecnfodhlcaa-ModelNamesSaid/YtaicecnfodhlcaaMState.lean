/- The abstract machine: its pure state; how it lies in memory. -/
import Derived.Test.YtaicecnfodhlcaaKeyInt
import Derived.Test.YtaicecnfodhlcaaAggB
set_option linter.unusedVariables false
set_option linter.unusedSimpArgs false
namespace Go.Proofs.Ytaicecnfodhlcaa
open Go.RowKit

/-- An api.Agg. -/
structure Ag where
  c : Int
  s : Int
  mn : Int
  mx : Int
  deriving DecidableEq
instance : Inhabited Ag := ⟨⟨0, 0, 0, 0⟩⟩
abbrev Ag.v (a : Ag) : Value := .agg #[.int .i64 a.c, .int .i64 a.s, .int .i64 a.mn, .int .i64 a.mx]
/-- Its numbers are numbers of 64 bits. -/
structure Ag.Ok (a : Ag) : Prop where
  c : is64 a.c
  s : is64 a.s
  mn : is64 a.mn
  mx : is64 a.mx
/-- An api.Row. -/
structure Rw where
  cell : Cell
  agg : Ag
  deriving DecidableEq
instance : Inhabited Rw := ⟨⟨default, default⟩⟩
abbrev rowL (r : Rw) : List Value := [.int .i64 r.cell.v, .string r.cell.k, .int .i64 r.cell.s, .int .i64 r.agg.c, .int .i64 r.agg.s, .int .i64 r.agg.mn, .int .i64 r.agg.mx]
abbrev callL (p : Int × Int) : List Value := [.int .i64 p.1, .int .i64 p.2]
/-- A slice as a value. -/
structure Slc where
  a : Option Addr
  n : Nat
  cap : Nat
instance : Inhabited Slc := ⟨⟨none, 0, 0⟩⟩
abbrev Slc.v (s : Slc) : Value := .slice s.a s.n s.cap
abbrev sliceL (s : Slc) : List Value := [.slice s.a s.n s.cap]
abbrev ptrL (p : Nat × Nat) : List Value := [.pointer (some ⟨p.1, 0, none⟩)]

/-- An api.Config; what is counted. -/
structure Cfg where
  vs : List View
  so : Int
  op : Int
  sh : Int
  sl : Int
  bx : Int
  ad : Int
  pi : Int
  ch : Int
  fr : Int
  inn : Int
  out : Int
structure Cnt where
  t : Int
  l : Int
  o : Int
  f : Int
  deriving DecidableEq

/-- THE STATE: the configuration; each operator's marks, and the marks that it heard; the cells that are there, in order; the maps of the epochs that are held; which session holds which; the epoch now; the counts. -/
structure Mst where
  cfg : Cfg
  ms : List (List Int)
  told : List (List (Int × Int))
  L : List Rw
  seals : Int → Option (List Rw)
  holds : Int → Int → Bool
  now : Int
  cnt : Cnt

/-- What a block is for. -/
inductive Lbl where
  | no | obj | views | there | marks | toldO | seals | holds
  | mobj (i : Nat) | mrow (i : Nat) | told (i : Nat) | epo (e : Int) | hold (s : Int)
  deriving DecidableEq

/-- Where it lies. -/
structure MB where
  mp : Nat
  bt : Nat
  bs : Nat
  bh : Nat
  av : Option Addr
  vcap : Nat
  ma : Option Addr
  mcap : Nat
  ta : Option Addr
  tcap : Nat
  mks : List (Nat × Nat)
  tk : List Slc
  sk : Int → Nat
  hk : Int → Option Nat
  lab : Nat → Lbl

/-- Block b is a map of rows. -/
def HasMap (w : World) (b : Nat) (L : List Rw) : Prop := ∃ m, MapIs cellV w b m ∧ m.Perm (L.map fun r => (r.cell, r.agg.v))
/-- Block b is a set of numbers. -/
def HasSet (w : World) (b : Nat) (p : Int → Bool) : Prop := ∃ m : List (Int × Value), MapIs intV w b m ∧ (∀ q ∈ m, q.2 = .bool true) ∧ ∀ e, p e = true ↔ e ∈ m.map (·.1)
theorem HasMap.keep {w w' : World} {b : Nat} {L : List Rw} (h : HasMap w b L) (hb : w'.heap[b]? = w.heap[b]?) : HasMap w' b L := by obtain ⟨m, h1, h2⟩ := h; exact ⟨m, h1.keep hb, h2⟩
theorem HasSet.keep {w w' : World} {b : Nat} {p : Int → Bool} (h : HasSet w b p) (hb : w'.heap[b]? = w.heap[b]?) : HasSet w' b p := by obtain ⟨m, h1, h2⟩ := h; exact ⟨m, h1.keep hb, h2⟩
theorem HasMap.lt {w : World} {b : Nat} {L : List Rw} (h : HasMap w b L) : b < w.heap.size := by obtain ⟨m, h1, _⟩ := h; exact h1.lt
theorem HasSet.lt {w : World} {b : Nat} {p : Int → Bool} (h : HasSet w b p) : b < w.heap.size := by obtain ⟨m, h1, _⟩ := h; exact h1.lt

abbrev cfgA (c : Cfg) (a : Option Addr) (cap : Nat) : List Value := [.slice a c.vs.length cap, .int .i64 c.so, .int .i64 c.op, .int .i64 c.sh, .int .i64 c.sl, .int .i64 c.bx, .int .i64 c.ad, .int .i64 c.pi, .int .i64 c.ch, .int .i64 c.fr, .int .i64 c.inn, .int .i64 c.out]

structure PObj (w : World) (B : MB) (S : Mst) : Prop where
  obj : w.heap[B.mp]? = some (.cells #[.slice B.av S.cfg.vs.length B.vcap, .int .i64 S.cfg.so, .int .i64 S.cfg.op, .int .i64 S.cfg.sh, .int .i64 S.cfg.sl, .int .i64 S.cfg.bx, .int .i64 S.cfg.ad, .int .i64 S.cfg.pi, .int .i64 S.cfg.ch, .int .i64 S.cfg.fr, .int .i64 S.cfg.inn, .int .i64 S.cfg.out,
    .map (some B.bt), .slice B.ma S.ms.length B.mcap, .slice B.ta S.told.length B.tcap, .int .i64 S.now, .map (some B.bs), .map (some B.bh), .int .i64 S.cnt.t, .int .i64 S.cnt.l, .int .i64 S.cnt.o, .int .i64 S.cnt.f, .int .i64 0, .int .i64 0] 88 (0, 0))
  lb : B.lab B.mp = .obj
structure PViews (w : World) (B : MB) (S : Mst) : Prop where
  own : Own 76 3 viewL 0 w (.slice B.av S.cfg.vs.length B.vcap) S.cfg.vs
  lb : ∀ g, (Value.slice B.av S.cfg.vs.length B.vcap).ownBlock = some g → B.lab g = .views
structure PThere (w : World) (B : MB) (S : Mst) : Prop where
  map : HasMap w B.bt S.L
  lb : B.lab B.bt = .there
structure PMarks (w : World) (B : MB) (S : Mst) : Prop where
  own : Own 61 1 ptrL 0 w (.slice B.ma S.ms.length B.mcap) B.mks
  lb : ∀ g, (Value.slice B.ma S.ms.length B.mcap).ownBlock = some g → B.lab g = .marks
  len : B.mks.length = S.ms.length
  at' : ∀ i (h : i < B.mks.length) (h2 : i < S.ms.length), IsMarks w B.mks[i].1 B.mks[i].2 S.ms[i] ∧ B.lab B.mks[i].1 = .mobj i ∧ B.lab B.mks[i].2 = .mrow i
structure PTold (w : World) (B : MB) (S : Mst) : Prop where
  own : Own 106 1 sliceL 0 w (.slice B.ta S.told.length B.tcap) B.tk
  lb : ∀ g, (Value.slice B.ta S.told.length B.tcap).ownBlock = some g → B.lab g = .toldO
  len : B.tk.length = S.told.length
  at' : ∀ i (h : i < B.tk.length) (h2 : i < S.told.length), Own 108 2 callL 0 w B.tk[i].v S.told[i] ∧ ∀ g, B.tk[i].v.ownBlock = some g → B.lab g = .told i
structure PSeals (w : World) (B : MB) (S : Mst) : Prop where
  lb : B.lab B.bs = .seals
  map : ∃ m, MapIs intV w B.bs m ∧ (∀ e L, S.seals e = some L → (e, Value.map (some (B.sk e))) ∈ m ∧ HasMap w (B.sk e) L ∧ B.lab (B.sk e) = .epo e) ∧ ∀ e, S.seals e = none → e ∉ m.map (·.1)
structure PHolds (w : World) (B : MB) (S : Mst) : Prop where
  lb : B.lab B.bh = .holds
  map : ∃ m, MapIs intV w B.bh m ∧ (∀ s b, B.hk s = some b → (s, Value.map (some b)) ∈ m ∧ HasSet w b (S.holds s) ∧ B.lab b = .hold s) ∧ ∀ s, B.hk s = none → s ∉ m.map (·.1) ∧ ∀ e, S.holds s e = false

theorem PObj.keep {w w' : World} {B : MB} {S : Mst} (h : PObj w B S) (hk : ∀ g, B.lab g = .obj → w'.heap[g]? = w.heap[g]?) : PObj w' B S := ⟨(hk _ h.lb).trans h.obj, h.lb⟩
theorem PViews.keep {w w' : World} {B : MB} {S : Mst} (h : PViews w B S) (hk : ∀ g, B.lab g = .views → w'.heap[g]? = w.heap[g]?) : PViews w' B S := ⟨h.own.keep fun g hg _ => hk g (h.lb g hg), h.lb⟩
theorem PThere.keep {w w' : World} {B : MB} {S : Mst} (h : PThere w B S) (hk : ∀ g, B.lab g = .there → w'.heap[g]? = w.heap[g]?) : PThere w' B S := ⟨h.map.keep (hk _ h.lb), h.lb⟩
theorem PMarks.keep {w w' : World} {B : MB} {S : Mst} (h : PMarks w B S) (hk : ∀ g, (B.lab g = .marks ∨ (∃ i, B.lab g = .mobj i) ∨ ∃ i, B.lab g = .mrow i) → w'.heap[g]? = w.heap[g]?) : PMarks w' B S :=
  ⟨h.own.keep fun g hg _ => hk g (.inl (h.lb g hg)), h.lb, h.len, fun i h1 h2 => ⟨(h.at' i h1 h2).1.keep (hk _ (.inr (.inl ⟨i, (h.at' i h1 h2).2.1⟩))) (hk _ (.inr (.inr ⟨i, (h.at' i h1 h2).2.2⟩))), (h.at' i h1 h2).2⟩⟩
theorem PTold.keep {w w' : World} {B : MB} {S : Mst} (h : PTold w B S) (hk : ∀ g, (B.lab g = .toldO ∨ ∃ i, B.lab g = .told i) → w'.heap[g]? = w.heap[g]?) : PTold w' B S :=
  ⟨h.own.keep fun g hg _ => hk g (.inl (h.lb g hg)), h.lb, h.len, fun i h1 h2 => ⟨(h.at' i h1 h2).1.keep fun g hg _ => hk g (.inr ⟨i, (h.at' i h1 h2).2 g hg⟩), (h.at' i h1 h2).2⟩⟩
theorem PSeals.keep {w w' : World} {B : MB} {S : Mst} (h : PSeals w B S) (hk : ∀ g, (B.lab g = .seals ∨ ∃ e, B.lab g = .epo e) → w'.heap[g]? = w.heap[g]?) : PSeals w' B S := by
  obtain ⟨m, h1, h2, h3⟩ := h.map
  exact ⟨h.lb, m, h1.keep (hk _ (.inl h.lb)), fun e L he => ⟨(h2 e L he).1, (h2 e L he).2.1.keep (hk _ (.inr ⟨e, (h2 e L he).2.2⟩)), (h2 e L he).2.2⟩, h3⟩
theorem PHolds.keep {w w' : World} {B : MB} {S : Mst} (h : PHolds w B S) (hk : ∀ g, (B.lab g = .holds ∨ ∃ s, B.lab g = .hold s) → w'.heap[g]? = w.heap[g]?) : PHolds w' B S := by
  obtain ⟨m, h1, h2, h3⟩ := h.map
  exact ⟨h.lb, m, h1.keep (hk _ (.inl h.lb)), fun s b he => ⟨(h2 s b he).1, (h2 s b he).2.1.keep (hk _ (.inr ⟨s, (h2 s b he).2.2⟩)), (h2 s b he).2.2⟩, h3⟩

/-- A configuration that is right. -/
structure Cfg.Ok (c : Cfg) : Prop where
  vlo : 1 ≤ c.vs.length
  vhi : c.vs.length ≤ 4
  vok : ∀ v ∈ c.vs, v.ok = true
  so : 1 ≤ c.so ∧ c.so ≤ 8
  op : 1 ≤ c.op ∧ c.op ≤ 8
  pi : 1 ≤ c.pi ∧ c.pi ≤ 64
/-- A cell that may be there. -/
def cellOk (vs : List View) (c : Cell) : Prop := ∃ (i : Nat) (hi : i < vs.length), c.v = i ∧ 1 ≤ c.k.size ∧ c.k.size ≤ 32 ∧ -2305843009213693952 ≤ c.s ∧ c.s ≤ 2305843009213693952

/-- A mark is heard. -/
def riseL (l : List Int) (c : Int × Int) : List Int := l.set c.1.toNat (max (l.getD c.1.toNat 0) c.2)
/-- What holds of the state itself. -/
structure Mst.Inv (S : Mst) : Prop where
  cfg : S.cfg.Ok
  msl : (S.ms.length : Int) = S.cfg.op
  mrow : ∀ l ∈ S.ms, (l.length : Int) = S.cfg.so
  tdl : S.told.length = S.ms.length
  rise : Rise (S.L.map (·.cell))
  may : ∀ r ∈ S.L, cellOk S.cfg.vs r.cell ∧ r.agg.Ok
  now : 1 ≤ S.now ∧ S.now ≤ 1099511627776
  old : ∀ s e, S.holds s e = true → 1 ≤ s ∧ s ≤ 64 ∧ 1 ≤ e ∧ e < S.now
  slk : ∀ e, (S.seals e).isSome = true ↔ ∃ s, S.holds s e = true
  sok : ∀ e L, S.seals e = some L → Rise (L.map (·.cell)) ∧ ∀ r ∈ L, cellOk S.cfg.vs r.cell ∧ r.agg.Ok
  cnt : 0 ≤ S.cnt.t ∧ 0 ≤ S.cnt.l ∧ 0 ≤ S.cnt.o ∧ 0 ≤ S.cnt.f
  tms : ∀ i, i < S.ms.length → S.ms.getD i [] = (S.told.getD i []).foldl riseL (List.replicate S.cfg.so.toNat noMark)
  tok : ∀ l ∈ S.told, ∀ c ∈ l, 0 ≤ c.1 ∧ c.1 < S.cfg.so ∧ -1152921504606846976 ≤ c.2 ∧ c.2 ≤ 1152921504606846976

/-- THE MODEL AT B HOLDS S. -/
structure IsModel (w : World) (B : MB) (S : Mst) : Prop where
  obj : PObj w B S
  views : PViews w B S
  there : PThere w B S
  marks : PMarks w B S
  told : PTold w B S
  seals : PSeals w B S
  holds : PHolds w B S
  inv : S.Inv
  lt : ∀ g, B.lab g ≠ .no → g < w.heap.size

theorem IsModel.keep {w w' : World} {B : MB} {S : Mst} (h : IsModel w B S) (hs : w.heap.size ≤ w'.heap.size) (hk : ∀ g, B.lab g ≠ .no → w'.heap[g]? = w.heap[g]?) : IsModel w' B S :=
  ⟨h.obj.keep fun g e => hk g (by rw [e]; simp), h.views.keep fun g e => hk g (by rw [e]; simp), h.there.keep fun g e => hk g (by rw [e]; simp),
    h.marks.keep fun g e => hk g (by rcases e with e | ⟨i, e⟩ | ⟨i, e⟩ <;> (rw [e]; simp)), h.told.keep fun g e => hk g (by rcases e with e | ⟨i, e⟩ <;> (rw [e]; simp)),
    h.seals.keep fun g e => hk g (by rcases e with e | ⟨i, e⟩ <;> (rw [e]; simp)), h.holds.keep fun g e => hk g (by rcases e with e | ⟨i, e⟩ <;> (rw [e]; simp)), h.inv, fun g e => Nat.lt_of_lt_of_le (h.lt g e) hs⟩
theorem IsModel.below {w w' : World} {B : MB} {S : Mst} (h : IsModel w B S) (k : Below w.heap.size w w') : IsModel w' B S := h.keep k.size fun g e => k.block g (h.lt g e)

/-- w' came of w; of the blocks that lay in w none but those of p has turned. -/
structure ChgP (p : Nat → Prop) (w w' : World) : Prop where
  os : w'.os = w.os
  tape : w'.tape = w.tape
  output : w'.output = w.output
  size : w.heap.size ≤ w'.heap.size
  block : ∀ k, k < w.heap.size → ¬ p k → w'.heap[k]? = w.heap[k]?
theorem ChgP.refl (p : Nat → Prop) (w : World) : ChgP p w w := ⟨rfl, rfl, rfl, Nat.le_refl _, fun _ _ _ => rfl⟩
theorem ChgP.trans {p : Nat → Prop} {a b c : World} (h : ChgP p a b) (k : ChgP p b c) : ChgP p a c :=
  ⟨k.os.trans h.os, k.tape.trans h.tape, k.output.trans h.output, Nat.le_trans h.size k.size, fun i hi hl => (k.block i (Nat.lt_of_lt_of_le hi h.size) hl).trans (h.block i hi hl)⟩
theorem ChgP.mono {p q : Nat → Prop} {a b : World} (h : ChgP p a b) (hl : ∀ x, p x → q x) : ChgP q a b := ⟨h.os, h.tape, h.output, h.size, fun i hi hn => h.block i hi (fun hx => hn (hl i hx))⟩
theorem ChgP.of {l : List Nat} {a b : World} (h : Chg l a b) : ChgP (· ∈ l) a b := ⟨h.os, h.tape, h.output, h.size, h.block⟩
theorem ChgP.of_below {p : Nat → Prop} {a b : World} (h : Below a.heap.size a b) : ChgP p a b := ⟨h.os, h.tape, h.output, h.size, fun i hi _ => h.block i hi⟩
/-- What came later may turn too. -/
theorem ChgP.late {p q : Nat → Prop} {a b c : World} (h : ChgP p a b) (k : ChgP q b c) (hq : ∀ x, q x → p x ∨ a.heap.size ≤ x) : ChgP p a c :=
  ⟨k.os.trans h.os, k.tape.trans h.tape, k.output.trans h.output, Nat.le_trans h.size k.size, fun i hi hl => (k.block i (Nat.lt_of_lt_of_le hi h.size) (fun hx => by rcases hq i hx with h1 | h1; exact hl h1; omega)).trans (h.block i hi hl)⟩

/-- The cells of the machine's struct. -/
theorem PObj.cells {w : World} {B : MB} {S : Mst} (h : PObj w B S) : w.cell? ⟨B.mp, 0, none⟩ = some (.slice B.av S.cfg.vs.length B.vcap) ∧ w.cell? ⟨B.mp, 1, none⟩ = some (.int .i64 S.cfg.so) ∧ w.cell? ⟨B.mp, 2, none⟩ = some (.int .i64 S.cfg.op) ∧ w.cell? ⟨B.mp, 7, none⟩ = some (.int .i64 S.cfg.pi) ∧
    w.cell? ⟨B.mp, 12, none⟩ = some (.map (some B.bt)) ∧ w.cell? ⟨B.mp, 13, none⟩ = some (.slice B.ma S.ms.length B.mcap) ∧ w.cell? ⟨B.mp, 14, none⟩ = some (.slice B.ta S.told.length B.tcap) ∧ w.cell? ⟨B.mp, 15, none⟩ = some (.int .i64 S.now) ∧ w.cell? ⟨B.mp, 16, none⟩ = some (.map (some B.bs)) ∧ w.cell? ⟨B.mp, 17, none⟩ = some (.map (some B.bh)) ∧
    w.cell? ⟨B.mp, 18, none⟩ = some (.int .i64 S.cnt.t) ∧ w.cell? ⟨B.mp, 19, none⟩ = some (.int .i64 S.cnt.l) ∧ w.cell? ⟨B.mp, 20, none⟩ = some (.int .i64 S.cnt.o) ∧ w.cell? ⟨B.mp, 21, none⟩ = some (.int .i64 S.cnt.f) ∧ w.cell? ⟨B.mp, 22, none⟩ = some (.int .i64 0) ∧ w.cell? ⟨B.mp, 23, none⟩ = some (.int .i64 0) := by
  simp [World.cell?, h.obj]

/-! ### another state, the same part; another place, the same part -/
theorem PViews.cast {w : World} {B B' : MB} {S S' : Mst} (h : PViews w B S) (e : S'.cfg = S.cfg) (ea : B'.av = B.av) (ec : B'.vcap = B.vcap) (el : ∀ g, B.lab g = .views → B'.lab g = .views) : PViews w B' S' := by
  refine ⟨?_, ?_⟩
  · rw [e, ea, ec]; exact h.own
  · rw [e, ea, ec]; exact fun g hg => el g (h.lb g hg)
theorem PThere.cast {w : World} {B B' : MB} {S S' : Mst} (h : PThere w B S) (e : S'.L = S.L) (ea : B'.bt = B.bt) (el : ∀ g, B.lab g = .there → B'.lab g = .there) : PThere w B' S' :=
  ⟨by rw [e, ea]; exact h.map, by rw [ea]; exact el _ h.lb⟩
theorem PMarks.cast {w : World} {B B' : MB} {S S' : Mst} (h : PMarks w B S) (e : S'.ms = S.ms) (ea : B'.ma = B.ma) (ec : B'.mcap = B.mcap) (ek : B'.mks = B.mks) (el : ∀ g, (B.lab g = .marks ∨ (∃ i, B.lab g = .mobj i) ∨ ∃ i, B.lab g = .mrow i) → B'.lab g = B.lab g) : PMarks w B' S' := by
  obtain ⟨h1, h2, h3, h4⟩ := h
  obtain ⟨mp, bt, bs, bh, av, vcap, ma, mcap, ta, tcap, mks, tk, sk, hk, lab⟩ := B
  obtain ⟨mp', bt', bs', bh', av', vcap', ma', mcap', ta', tcap', mks', tk', sk', hk', lab'⟩ := B'
  obtain ⟨cfg, ms, told, L, seals, holds, now, cnt⟩ := S
  obtain ⟨cfg', ms', told', L', seals', holds', now', cnt'⟩ := S'
  dsimp only at *
  subst e ea ec ek
  exact ⟨h1, fun g hg => (el g (.inl (h2 g hg))).trans (h2 g hg), h3, fun i a b => ⟨(h4 i a b).1, (el _ (.inr (.inl ⟨i, (h4 i a b).2.1⟩))).trans (h4 i a b).2.1, (el _ (.inr (.inr ⟨i, (h4 i a b).2.2⟩))).trans (h4 i a b).2.2⟩⟩
theorem PTold.cast {w : World} {B B' : MB} {S S' : Mst} (h : PTold w B S) (e : S'.told = S.told) (ea : B'.ta = B.ta) (ec : B'.tcap = B.tcap) (ek : B'.tk = B.tk) (el : ∀ g, (B.lab g = .toldO ∨ ∃ i, B.lab g = .told i) → B'.lab g = B.lab g) : PTold w B' S' := by
  obtain ⟨h1, h2, h3, h4⟩ := h
  obtain ⟨mp, bt, bs, bh, av, vcap, ma, mcap, ta, tcap, mks, tk, sk, hk, lab⟩ := B
  obtain ⟨mp', bt', bs', bh', av', vcap', ma', mcap', ta', tcap', mks', tk', sk', hk', lab'⟩ := B'
  obtain ⟨cfg, ms, told, L, seals, holds, now, cnt⟩ := S
  obtain ⟨cfg', ms', told', L', seals', holds', now', cnt'⟩ := S'
  dsimp only at *
  subst e ea ec ek
  exact ⟨h1, fun g hg => (el g (.inl (h2 g hg))).trans (h2 g hg), h3, fun i a b => ⟨(h4 i a b).1, fun g hg => (el g (.inr ⟨i, (h4 i a b).2 g hg⟩)).trans ((h4 i a b).2 g hg)⟩⟩
theorem PSeals.cast {w : World} {B B' : MB} {S S' : Mst} (h : PSeals w B S) (e : S'.seals = S.seals) (ea : B'.bs = B.bs) (ek : B'.sk = B.sk) (el : ∀ g, (B.lab g = .seals ∨ ∃ x, B.lab g = .epo x) → B'.lab g = B.lab g) : PSeals w B' S' := by
  obtain ⟨h1, m, h2, h3, h4⟩ := h
  refine ⟨by rw [ea]; exact (el _ (.inl h1)).trans h1, m, by rw [ea]; exact h2, fun x L hx => ?_, by rw [e]; exact h4⟩
  rw [e] at hx
  rw [ek]
  exact ⟨(h3 x L hx).1, (h3 x L hx).2.1, (el _ (.inr ⟨x, (h3 x L hx).2.2⟩)).trans (h3 x L hx).2.2⟩
theorem PHolds.cast {w : World} {B B' : MB} {S S' : Mst} (h : PHolds w B S) (e : S'.holds = S.holds) (ea : B'.bh = B.bh) (ek : B'.hk = B.hk) (el : ∀ g, (B.lab g = .holds ∨ ∃ x, B.lab g = .hold x) → B'.lab g = B.lab g) : PHolds w B' S' := by
  obtain ⟨h1, m, h2, h3, h4⟩ := h
  refine ⟨by rw [ea]; exact (el _ (.inl h1)).trans h1, m, by rw [ea]; exact h2, fun s b hx => ?_, by rw [ek, e]; exact h4⟩
  rw [ek] at hx
  rw [e]
  exact ⟨(h3 s b hx).1, (h3 s b hx).2.1, (el _ (.inr ⟨s, (h3 s b hx).2.2⟩)).trans (h3 s b hx).2.2⟩

/-- The struct alone turned: the epoch now, the counts. -/
theorem IsModel.struct {w w' : World} {B : MB} {S S' : Mst} (h : IsModel w B S) (ho : PObj w' B S') (hs : w.heap.size ≤ w'.heap.size) (hk : ∀ g, g < w.heap.size → g ≠ B.mp → w'.heap[g]? = w.heap[g]?)
    (e1 : S'.cfg = S.cfg) (e2 : S'.ms = S.ms) (e3 : S'.told = S.told) (e4 : S'.L = S.L) (e5 : S'.seals = S.seals) (e6 : S'.holds = S.holds) (hi : S'.Inv) : IsModel w' B S' := by
  have hn : ∀ g, B.lab g ≠ .no → B.lab g ≠ .obj → w'.heap[g]? = w.heap[g]? := fun g h1 h2 => hk g (h.lt g h1) (fun e => h2 (by rw [e]; exact h.obj.lb))
  exact ⟨ho, (h.views.keep fun g e => hn g (by rw [e]; simp) (by rw [e]; simp)).cast e1 rfl rfl fun _ e => e, (h.there.keep fun g e => hn g (by rw [e]; simp) (by rw [e]; simp)).cast e4 rfl fun _ e => e,
    (h.marks.keep fun g e => hn g (by rcases e with e | ⟨i, e⟩ | ⟨i, e⟩ <;> (rw [e]; simp)) (by rcases e with e | ⟨i, e⟩ | ⟨i, e⟩ <;> (rw [e]; simp))).cast e2 rfl rfl rfl fun _ _ => rfl,
    (h.told.keep fun g e => hn g (by rcases e with e | ⟨i, e⟩ <;> (rw [e]; simp)) (by rcases e with e | ⟨i, e⟩ <;> (rw [e]; simp))).cast e3 rfl rfl rfl fun _ _ => rfl,
    (h.seals.keep fun g e => hn g (by rcases e with e | ⟨i, e⟩ <;> (rw [e]; simp)) (by rcases e with e | ⟨i, e⟩ <;> (rw [e]; simp))).cast e5 rfl rfl fun _ _ => rfl,
    (h.holds.keep fun g e => hn g (by rcases e with e | ⟨i, e⟩ <;> (rw [e]; simp)) (by rcases e with e | ⟨i, e⟩ <;> (rw [e]; simp))).cast e6 rfl rfl fun _ _ => rfl, hi, fun g e => Nat.lt_of_lt_of_le (h.lt g e) hs⟩
/-- The map of what is there alone turned. -/
theorem IsModel.mapped {w w' : World} {B : MB} {S S' : Mst} (h : IsModel w B S) (ht : HasMap w' B.bt S'.L) (hs : w.heap.size ≤ w'.heap.size) (hk : ∀ g, g < w.heap.size → g ≠ B.bt → w'.heap[g]? = w.heap[g]?)
    (e0 : S' = { S with L := S'.L }) (hi : S'.Inv) : IsModel w' B S' := by
  have hn : ∀ g, B.lab g ≠ .no → B.lab g ≠ .there → w'.heap[g]? = w.heap[g]? := fun g h1 h2 => hk g (h.lt g h1) (fun e => h2 (by rw [e]; exact h.there.lb))
  have ho := h.obj.keep (w' := w') fun g e => hn g (by rw [e]; simp) (by rw [e]; simp)
  generalize S'.L = L' at *
  subst e0
  exact ⟨⟨ho.obj, ho.lb⟩, (h.views.keep fun g e => hn g (by rw [e]; simp) (by rw [e]; simp)).cast rfl rfl rfl fun _ e => e, ⟨ht, h.there.lb⟩,
    (h.marks.keep fun g e => hn g (by rcases e with e | ⟨i, e⟩ | ⟨i, e⟩ <;> (rw [e]; simp)) (by rcases e with e | ⟨i, e⟩ | ⟨i, e⟩ <;> (rw [e]; simp))).cast rfl rfl rfl rfl fun _ _ => rfl,
    (h.told.keep fun g e => hn g (by rcases e with e | ⟨i, e⟩ <;> (rw [e]; simp)) (by rcases e with e | ⟨i, e⟩ <;> (rw [e]; simp))).cast rfl rfl rfl rfl fun _ _ => rfl,
    (h.seals.keep fun g e => hn g (by rcases e with e | ⟨i, e⟩ <;> (rw [e]; simp)) (by rcases e with e | ⟨i, e⟩ <;> (rw [e]; simp))).cast rfl rfl rfl fun _ _ => rfl,
    (h.holds.keep fun g e => hn g (by rcases e with e | ⟨i, e⟩ <;> (rw [e]; simp)) (by rcases e with e | ⟨i, e⟩ <;> (rw [e]; simp))).cast rfl rfl rfl fun _ _ => rfl, hi, fun g e => Nat.lt_of_lt_of_le (h.lt g e) hs⟩
end Go.Proofs.Ytaicecnfodhlcaa
