/- The abstract machine: its pure state; how it lies in memory. -/
import Derived.Test.YtaicecnfodhlcaaJ02
import Derived.RegionTactic
import Derived.BigRegion
set_option linter.unusedVariables false
set_option linter.unusedSimpArgs false
namespace Go.Proofs.Ytaicecnfodhlcaa
open Go.RowKit

/-- An api.Agg. -/
structure Ag where
  c : Int
  s : Int
  mn : Int
  mx : Int
  deriving DecidableEq
instance : Inhabited Ag := ⟨⟨0, 0, 0, 0⟩⟩
abbrev Ag.v (a : Ag) : Value := .agg #[.int .i64 a.c, .int .i64 a.s, .int .i64 a.mn, .int .i64 a.mx]
/-- Its numbers are numbers of 64 bits. -/
structure Ag.Ok (a : Ag) : Prop where
  c : is64 a.c
  s : is64 a.s
  mn : is64 a.mn
  mx : is64 a.mx
/-- An api.Row. -/
structure Rw where
  cell : Cell
  agg : Ag
  deriving DecidableEq
instance : Inhabited Rw := ⟨⟨default, default⟩⟩
abbrev rowL (r : Rw) : List Value := [.int .i64 r.cell.v, .string r.cell.k, .int .i64 r.cell.s, .int .i64 r.agg.c, .int .i64 r.agg.s, .int .i64 r.agg.mn, .int .i64 r.agg.mx]
abbrev callL (p : Int × Int) : List Value := [.int .i64 p.1, .int .i64 p.2]
/-- A slice as a value. -/
structure Slc where
  a : Option Addr
  n : Nat
  cap : Nat
instance : Inhabited Slc := ⟨⟨none, 0, 0⟩⟩
abbrev Slc.v (s : Slc) : Value := .slice s.a s.n s.cap
abbrev sliceL (s : Slc) : List Value := [.slice s.a s.n s.cap]
abbrev ptrL (p : Nat × Nat) : List Value := [.pointer (some ⟨p.1, 0, none⟩)]

/-- An api.Config; what is counted. -/
structure Cfg where
  vs : List View
  so : Int
  op : Int
  sh : Int
  sl : Int
  bx : Int
  ad : Int
  pi : Int
  ch : Int
  fr : Int
  inn : Int
  out : Int
structure Cnt where
  t : Int
  l : Int
  o : Int
  f : Int
  deriving DecidableEq

/-- THE STATE: the configuration; each operator's marks, and the marks that it heard; the cells that are there, in order; the maps of the epochs that are held; which session holds which; the epoch now; the counts. -/
structure Mst where
  cfg : Cfg
  ms : List (List Int)
  told : List (List (Int × Int))
  L : List Rw
  seals : Int → Option (List Rw)
  holds : Int → Int → Bool
  now : Int
  cnt : Cnt

/-- What a block is for. -/
inductive Lbl where
  | no | obj | views | there | marks | toldO | seals | holds
  | mobj (i : Nat) | mrow (i : Nat) | told (i : Nat) | epo (e : Int) | hold (s : Int)
  deriving DecidableEq

/-- Where it lies. -/
structure MB where
  mp : Nat
  bt : Nat
  bs : Nat
  bh : Nat
  av : Option Addr
  vcap : Nat
  ma : Option Addr
  mcap : Nat
  ta : Option Addr
  tcap : Nat
  mks : List (Nat × Nat)
  tk : List Slc
  sk : Int → Nat
  hk : Int → Option Nat
  lab : Nat → Lbl

/-- Block b is a map of rows. -/
def HasMap (w : World) (b : Nat) (L : List Rw) : Prop := ∃ m, MapIs cellV w b m ∧ m.Perm (L.map fun r => (r.cell, r.agg.v))
/-- Block b is a set of numbers. -/
def HasSet (w : World) (b : Nat) (p : Int → Bool) : Prop := ∃ m : List (Int × Value), MapIs intV w b m ∧ (∀ q ∈ m, q.2 = .bool true) ∧ ∀ e, p e = true ↔ e ∈ m.map (·.1)
theorem HasMap.keep {w w' : World} {b : Nat} {L : List Rw} (h : HasMap w b L) (hb : w'.heap[b]? = w.heap[b]?) : HasMap w' b L := by obtain ⟨m, h1, h2⟩ := h; exact ⟨m, h1.keep hb, h2⟩
theorem HasSet.keep {w w' : World} {b : Nat} {p : Int → Bool} (h : HasSet w b p) (hb : w'.heap[b]? = w.heap[b]?) : HasSet w' b p := by obtain ⟨m, h1, h2⟩ := h; exact ⟨m, h1.keep hb, h2⟩
theorem HasMap.lt {w : World} {b : Nat} {L : List Rw} (h : HasMap w b L) : b < w.heap.size := by obtain ⟨m, h1, _⟩ := h; exact h1.lt
theorem HasSet.lt {w : World} {b : Nat} {p : Int → Bool} (h : HasSet w b p) : b < w.heap.size := by obtain ⟨m, h1, _⟩ := h; exact h1.lt

abbrev cfgA (c : Cfg) (a : Option Addr) (cap : Nat) : List Value := [.slice a c.vs.length cap, .int .i64 c.so, .int .i64 c.op, .int .i64 c.sh, .int .i64 c.sl, .int .i64 c.bx, .int .i64 c.ad, .int .i64 c.pi, .int .i64 c.ch, .int .i64 c.fr, .int .i64 c.inn, .int .i64 c.out]

structure PObj (w : World) (B : MB) (S : Mst) : Prop where
  obj : w.heap[B.mp]? = some (.cells #[.slice B.av S.cfg.vs.length B.vcap, .int .i64 S.cfg.so, .int .i64 S.cfg.op, .int .i64 S.cfg.sh, .int .i64 S.cfg.sl, .int .i64 S.cfg.bx, .int .i64 S.cfg.ad, .int .i64 S.cfg.pi, .int .i64 S.cfg.ch, .int .i64 S.cfg.fr, .int .i64 S.cfg.inn, .int .i64 S.cfg.out,
    .map (some B.bt), .slice B.ma S.ms.length B.mcap, .slice B.ta S.told.length B.tcap, .int .i64 S.now, .map (some B.bs), .map (some B.bh), .int .i64 S.cnt.t, .int .i64 S.cnt.l, .int .i64 S.cnt.o, .int .i64 S.cnt.f, .int .i64 0, .int .i64 0] 88 (0, 0))
  lb : B.lab B.mp = .obj
structure PViews (w : World) (B : MB) (S : Mst) : Prop where
  own : Own 76 3 viewL 0 w (.slice B.av S.cfg.vs.length B.vcap) S.cfg.vs
  lb : ∀ g, (Value.slice B.av S.cfg.vs.length B.vcap).ownBlock = some g → B.lab g = .views
structure PThere (w : World) (B : MB) (S : Mst) : Prop where
  map : HasMap w B.bt S.L
  lb : B.lab B.bt = .there
structure PMarks (w : World) (B : MB) (S : Mst) : Prop where
  own : Own 61 1 ptrL 0 w (.slice B.ma S.ms.length B.mcap) B.mks
  lb : ∀ g, (Value.slice B.ma S.ms.length B.mcap).ownBlock = some g → B.lab g = .marks
  len : B.mks.length = S.ms.length
  at' : ∀ i (h : i < B.mks.length) (h2 : i < S.ms.length), IsMarks w B.mks[i].1 B.mks[i].2 S.ms[i] ∧ B.lab B.mks[i].1 = .mobj i ∧ B.lab B.mks[i].2 = .mrow i
structure PTold (w : World) (B : MB) (S : Mst) : Prop where
  own : Own 106 1 sliceL 0 w (.slice B.ta S.told.length B.tcap) B.tk
  lb : ∀ g, (Value.slice B.ta S.told.length B.tcap).ownBlock = some g → B.lab g = .toldO
  len : B.tk.length = S.told.length
  at' : ∀ i (h : i < B.tk.length) (h2 : i < S.told.length), Own 108 2 callL 0 w B.tk[i].v S.told[i] ∧ ∀ g, B.tk[i].v.ownBlock = some g → B.lab g = .told i
structure PSeals (w : World) (B : MB) (S : Mst) : Prop where
  lb : B.lab B.bs = .seals
  map : ∃ m, MapIs intV w B.bs m ∧ (∀ e L, S.seals e = some L → (e, Value.map (some (B.sk e))) ∈ m ∧ HasMap w (B.sk e) L ∧ B.lab (B.sk e) = .epo e) ∧ ∀ e, S.seals e = none → e ∉ m.map (·.1)
structure PHolds (w : World) (B : MB) (S : Mst) : Prop where
  lb : B.lab B.bh = .holds
  map : ∃ m, MapIs intV w B.bh m ∧ (∀ s b, B.hk s = some b → (s, Value.map (some b)) ∈ m ∧ HasSet w b (S.holds s) ∧ B.lab b = .hold s) ∧ ∀ s, B.hk s = none → s ∉ m.map (·.1) ∧ ∀ e, S.holds s e = false

theorem PObj.keep {w w' : World} {B : MB} {S : Mst} (h : PObj w B S) (hk : ∀ g, B.lab g = .obj → w'.heap[g]? = w.heap[g]?) : PObj w' B S := ⟨(hk _ h.lb).trans h.obj, h.lb⟩
theorem PViews.keep {w w' : World} {B : MB} {S : Mst} (h : PViews w B S) (hk : ∀ g, B.lab g = .views → w'.heap[g]? = w.heap[g]?) : PViews w' B S := ⟨h.own.keep fun g hg _ => hk g (h.lb g hg), h.lb⟩
theorem PThere.keep {w w' : World} {B : MB} {S : Mst} (h : PThere w B S) (hk : ∀ g, B.lab g = .there → w'.heap[g]? = w.heap[g]?) : PThere w' B S := ⟨h.map.keep (hk _ h.lb), h.lb⟩
theorem PMarks.keep {w w' : World} {B : MB} {S : Mst} (h : PMarks w B S) (hk : ∀ g, (B.lab g = .marks ∨ (∃ i, B.lab g = .mobj i) ∨ ∃ i, B.lab g = .mrow i) → w'.heap[g]? = w.heap[g]?) : PMarks w' B S :=
  ⟨h.own.keep fun g hg _ => hk g (.inl (h.lb g hg)), h.lb, h.len, fun i h1 h2 => ⟨(h.at' i h1 h2).1.keep (hk _ (.inr (.inl ⟨i, (h.at' i h1 h2).2.1⟩))) (hk _ (.inr (.inr ⟨i, (h.at' i h1 h2).2.2⟩))), (h.at' i h1 h2).2⟩⟩
theorem PTold.keep {w w' : World} {B : MB} {S : Mst} (h : PTold w B S) (hk : ∀ g, (B.lab g = .toldO ∨ ∃ i, B.lab g = .told i) → w'.heap[g]? = w.heap[g]?) : PTold w' B S :=
  ⟨h.own.keep fun g hg _ => hk g (.inl (h.lb g hg)), h.lb, h.len, fun i h1 h2 => ⟨(h.at' i h1 h2).1.keep fun g hg _ => hk g (.inr ⟨i, (h.at' i h1 h2).2 g hg⟩), (h.at' i h1 h2).2⟩⟩
theorem PSeals.keep {w w' : World} {B : MB} {S : Mst} (h : PSeals w B S) (hk : ∀ g, (B.lab g = .seals ∨ ∃ e, B.lab g = .epo e) → w'.heap[g]? = w.heap[g]?) : PSeals w' B S := by
  obtain ⟨m, h1, h2, h3⟩ := h.map
  exact ⟨h.lb, m, h1.keep (hk _ (.inl h.lb)), fun e L he => ⟨(h2 e L he).1, (h2 e L he).2.1.keep (hk _ (.inr ⟨e, (h2 e L he).2.2⟩)), (h2 e L he).2.2⟩, h3⟩
theorem PHolds.keep {w w' : World} {B : MB} {S : Mst} (h : PHolds w B S) (hk : ∀ g, (B.lab g = .holds ∨ ∃ s, B.lab g = .hold s) → w'.heap[g]? = w.heap[g]?) : PHolds w' B S := by
  obtain ⟨m, h1, h2, h3⟩ := h.map
  exact ⟨h.lb, m, h1.keep (hk _ (.inl h.lb)), fun s b he => ⟨(h2 s b he).1, (h2 s b he).2.1.keep (hk _ (.inr ⟨s, (h2 s b he).2.2⟩)), (h2 s b he).2.2⟩, h3⟩

/-- A configuration that is right. -/
structure Cfg.Ok (c : Cfg) : Prop where
  vlo : 1 ≤ c.vs.length
  vhi : c.vs.length ≤ 4
  vok : ∀ v ∈ c.vs, v.ok = true
  so : 1 ≤ c.so ∧ c.so ≤ 8
  op : 1 ≤ c.op ∧ c.op ≤ 8
  pi : 1 ≤ c.pi ∧ c.pi ≤ 64
/-- A cell that may be there. -/
def cellOk (vs : List View) (c : Cell) : Prop := ∃ (i : Nat) (hi : i < vs.length), c.v = i ∧ 1 ≤ c.k.size ∧ c.k.size ≤ 32 ∧ -2305843009213693952 ≤ c.s ∧ c.s ≤ 2305843009213693952

/-- A mark is heard. -/
def riseL (l : List Int) (c : Int × Int) : List Int := l.set c.1.toNat (max (l.getD c.1.toNat 0) c.2)
/-- What holds of the state itself. -/
structure Mst.Inv (S : Mst) : Prop where
  cfg : S.cfg.Ok
  msl : (S.ms.length : Int) = S.cfg.op
  mrow : ∀ l ∈ S.ms, (l.length : Int) = S.cfg.so
  tdl : S.told.length = S.ms.length
  rise : Rise (S.L.map (·.cell))
  may : ∀ r ∈ S.L, cellOk S.cfg.vs r.cell ∧ r.agg.Ok
  now : 1 ≤ S.now ∧ S.now ≤ 1099511627776
  old : ∀ s e, S.holds s e = true → 1 ≤ s ∧ s ≤ 64 ∧ 1 ≤ e ∧ e < S.now
  slk : ∀ e, (S.seals e).isSome = true ↔ ∃ s, S.holds s e = true
  sok : ∀ e L, S.seals e = some L → Rise (L.map (·.cell)) ∧ ∀ r ∈ L, cellOk S.cfg.vs r.cell ∧ r.agg.Ok
  cnt : 0 ≤ S.cnt.t ∧ 0 ≤ S.cnt.l ∧ 0 ≤ S.cnt.o ∧ 0 ≤ S.cnt.f
  tms : ∀ i, i < S.ms.length → S.ms.getD i [] = (S.told.getD i []).foldl riseL (List.replicate S.cfg.so.toNat noMark)
  tok : ∀ l ∈ S.told, ∀ c ∈ l, 0 ≤ c.1 ∧ c.1 < S.cfg.so ∧ -1152921504606846976 ≤ c.2 ∧ c.2 ≤ 1152921504606846976

/-- THE MODEL AT B HOLDS S. -/
structure IsModel (w : World) (B : MB) (S : Mst) : Prop where
  obj : PObj w B S
  views : PViews w B S
  there : PThere w B S
  marks : PMarks w B S
  told : PTold w B S
  seals : PSeals w B S
  holds : PHolds w B S
  inv : S.Inv
  lt : ∀ g, B.lab g ≠ .no → g < w.heap.size

theorem IsModel.keep {w w' : World} {B : MB} {S : Mst} (h : IsModel w B S) (hs : w.heap.size ≤ w'.heap.size) (hk : ∀ g, B.lab g ≠ .no → w'.heap[g]? = w.heap[g]?) : IsModel w' B S :=
  ⟨h.obj.keep fun g e => hk g (by rw [e]; simp), h.views.keep fun g e => hk g (by rw [e]; simp), h.there.keep fun g e => hk g (by rw [e]; simp),
    h.marks.keep fun g e => hk g (by rcases e with e | ⟨i, e⟩ | ⟨i, e⟩ <;> (rw [e]; simp)), h.told.keep fun g e => hk g (by rcases e with e | ⟨i, e⟩ <;> (rw [e]; simp)),
    h.seals.keep fun g e => hk g (by rcases e with e | ⟨i, e⟩ <;> (rw [e]; simp)), h.holds.keep fun g e => hk g (by rcases e with e | ⟨i, e⟩ <;> (rw [e]; simp)), h.inv, fun g e => Nat.lt_of_lt_of_le (h.lt g e) hs⟩
theorem IsModel.below {w w' : World} {B : MB} {S : Mst} (h : IsModel w B S) (k : Below w.heap.size w w') : IsModel w' B S := h.keep k.size fun g e => k.block g (h.lt g e)

/-- w' came of w; of the blocks that lay in w none but those of p has turned. -/
structure ChgP (p : Nat → Prop) (w w' : World) : Prop where
  os : w'.os = w.os
  tape : w'.tape = w.tape
  output : w'.output = w.output
  size : w.heap.size ≤ w'.heap.size
  block : ∀ k, k < w.heap.size → ¬ p k → w'.heap[k]? = w.heap[k]?
theorem ChgP.refl (p : Nat → Prop) (w : World) : ChgP p w w := ⟨rfl, rfl, rfl, Nat.le_refl _, fun _ _ _ => rfl⟩
theorem ChgP.trans {p : Nat → Prop} {a b c : World} (h : ChgP p a b) (k : ChgP p b c) : ChgP p a c :=
  ⟨k.os.trans h.os, k.tape.trans h.tape, k.output.trans h.output, Nat.le_trans h.size k.size, fun i hi hl => (k.block i (Nat.lt_of_lt_of_le hi h.size) hl).trans (h.block i hi hl)⟩
theorem ChgP.mono {p q : Nat → Prop} {a b : World} (h : ChgP p a b) (hl : ∀ x, p x → q x) : ChgP q a b := ⟨h.os, h.tape, h.output, h.size, fun i hi hn => h.block i hi (fun hx => hn (hl i hx))⟩
theorem ChgP.of {l : List Nat} {a b : World} (h : Chg l a b) : ChgP (· ∈ l) a b := ⟨h.os, h.tape, h.output, h.size, h.block⟩
theorem ChgP.of_below {p : Nat → Prop} {a b : World} (h : Below a.heap.size a b) : ChgP p a b := ⟨h.os, h.tape, h.output, h.size, fun i hi _ => h.block i hi⟩
/-- What came later may turn too. -/
theorem ChgP.late {p q : Nat → Prop} {a b c : World} (h : ChgP p a b) (k : ChgP q b c) (hq : ∀ x, q x → p x ∨ a.heap.size ≤ x) : ChgP p a c :=
  ⟨k.os.trans h.os, k.tape.trans h.tape, k.output.trans h.output, Nat.le_trans h.size k.size, fun i hi hl => (k.block i (Nat.lt_of_lt_of_le hi h.size) (fun hx => by rcases hq i hx with h1 | h1; exact hl h1; omega)).trans (h.block i hi hl)⟩

/-- The cells of the machine's struct. -/
theorem PObj.cells {w : World} {B : MB} {S : Mst} (h : PObj w B S) : w.cell? ⟨B.mp, 0, none⟩ = some (.slice B.av S.cfg.vs.length B.vcap) ∧ w.cell? ⟨B.mp, 1, none⟩ = some (.int .i64 S.cfg.so) ∧ w.cell? ⟨B.mp, 2, none⟩ = some (.int .i64 S.cfg.op) ∧ w.cell? ⟨B.mp, 7, none⟩ = some (.int .i64 S.cfg.pi) ∧
    w.cell? ⟨B.mp, 12, none⟩ = some (.map (some B.bt)) ∧ w.cell? ⟨B.mp, 13, none⟩ = some (.slice B.ma S.ms.length B.mcap) ∧ w.cell? ⟨B.mp, 14, none⟩ = some (.slice B.ta S.told.length B.tcap) ∧ w.cell? ⟨B.mp, 15, none⟩ = some (.int .i64 S.now) ∧ w.cell? ⟨B.mp, 16, none⟩ = some (.map (some B.bs)) ∧ w.cell? ⟨B.mp, 17, none⟩ = some (.map (some B.bh)) ∧
    w.cell? ⟨B.mp, 18, none⟩ = some (.int .i64 S.cnt.t) ∧ w.cell? ⟨B.mp, 19, none⟩ = some (.int .i64 S.cnt.l) ∧ w.cell? ⟨B.mp, 20, none⟩ = some (.int .i64 S.cnt.o) ∧ w.cell? ⟨B.mp, 21, none⟩ = some (.int .i64 S.cnt.f) ∧ w.cell? ⟨B.mp, 22, none⟩ = some (.int .i64 0) ∧ w.cell? ⟨B.mp, 23, none⟩ = some (.int .i64 0) := by
  simp [World.cell?, h.obj]

/-! ### another state, the same part; another place, the same part -/
theorem PViews.cast {w : World} {B B' : MB} {S S' : Mst} (h : PViews w B S) (e : S'.cfg = S.cfg) (ea : B'.av = B.av) (ec : B'.vcap = B.vcap) (el : ∀ g, B.lab g = .views → B'.lab g = .views) : PViews w B' S' := by
  refine ⟨?_, ?_⟩
  · rw [e, ea, ec]; exact h.own
  · rw [e, ea, ec]; exact fun g hg => el g (h.lb g hg)
theorem PThere.cast {w : World} {B B' : MB} {S S' : Mst} (h : PThere w B S) (e : S'.L = S.L) (ea : B'.bt = B.bt) (el : ∀ g, B.lab g = .there → B'.lab g = .there) : PThere w B' S' :=
  ⟨by rw [e, ea]; exact h.map, by rw [ea]; exact el _ h.lb⟩
theorem PMarks.cast {w : World} {B B' : MB} {S S' : Mst} (h : PMarks w B S) (e : S'.ms = S.ms) (ea : B'.ma = B.ma) (ec : B'.mcap = B.mcap) (ek : B'.mks = B.mks) (el : ∀ g, (B.lab g = .marks ∨ (∃ i, B.lab g = .mobj i) ∨ ∃ i, B.lab g = .mrow i) → B'.lab g = B.lab g) : PMarks w B' S' := by
  obtain ⟨h1, h2, h3, h4⟩ := h
  obtain ⟨mp, bt, bs, bh, av, vcap, ma, mcap, ta, tcap, mks, tk, sk, hk, lab⟩ := B
  obtain ⟨mp', bt', bs', bh', av', vcap', ma', mcap', ta', tcap', mks', tk', sk', hk', lab'⟩ := B'
  obtain ⟨cfg, ms, told, L, seals, holds, now, cnt⟩ := S
  obtain ⟨cfg', ms', told', L', seals', holds', now', cnt'⟩ := S'
  dsimp only at *
  subst e ea ec ek
  exact ⟨h1, fun g hg => (el g (.inl (h2 g hg))).trans (h2 g hg), h3, fun i a b => ⟨(h4 i a b).1, (el _ (.inr (.inl ⟨i, (h4 i a b).2.1⟩))).trans (h4 i a b).2.1, (el _ (.inr (.inr ⟨i, (h4 i a b).2.2⟩))).trans (h4 i a b).2.2⟩⟩
theorem PTold.cast {w : World} {B B' : MB} {S S' : Mst} (h : PTold w B S) (e : S'.told = S.told) (ea : B'.ta = B.ta) (ec : B'.tcap = B.tcap) (ek : B'.tk = B.tk) (el : ∀ g, (B.lab g = .toldO ∨ ∃ i, B.lab g = .told i) → B'.lab g = B.lab g) : PTold w B' S' := by
  obtain ⟨h1, h2, h3, h4⟩ := h
  obtain ⟨mp, bt, bs, bh, av, vcap, ma, mcap, ta, tcap, mks, tk, sk, hk, lab⟩ := B
  obtain ⟨mp', bt', bs', bh', av', vcap', ma', mcap', ta', tcap', mks', tk', sk', hk', lab'⟩ := B'
  obtain ⟨cfg, ms, told, L, seals, holds, now, cnt⟩ := S
  obtain ⟨cfg', ms', told', L', seals', holds', now', cnt'⟩ := S'
  dsimp only at *
  subst e ea ec ek
  exact ⟨h1, fun g hg => (el g (.inl (h2 g hg))).trans (h2 g hg), h3, fun i a b => ⟨(h4 i a b).1, fun g hg => (el g (.inr ⟨i, (h4 i a b).2 g hg⟩)).trans ((h4 i a b).2 g hg)⟩⟩
theorem PSeals.cast {w : World} {B B' : MB} {S S' : Mst} (h : PSeals w B S) (e : S'.seals = S.seals) (ea : B'.bs = B.bs) (ek : B'.sk = B.sk) (el : ∀ g, (B.lab g = .seals ∨ ∃ x, B.lab g = .epo x) → B'.lab g = B.lab g) : PSeals w B' S' := by
  obtain ⟨h1, m, h2, h3, h4⟩ := h
  refine ⟨by rw [ea]; exact (el _ (.inl h1)).trans h1, m, by rw [ea]; exact h2, fun x L hx => ?_, by rw [e]; exact h4⟩
  rw [e] at hx
  rw [ek]
  exact ⟨(h3 x L hx).1, (h3 x L hx).2.1, (el _ (.inr ⟨x, (h3 x L hx).2.2⟩)).trans (h3 x L hx).2.2⟩
theorem PHolds.cast {w : World} {B B' : MB} {S S' : Mst} (h : PHolds w B S) (e : S'.holds = S.holds) (ea : B'.bh = B.bh) (ek : B'.hk = B.hk) (el : ∀ g, (B.lab g = .holds ∨ ∃ x, B.lab g = .hold x) → B'.lab g = B.lab g) : PHolds w B' S' := by
  obtain ⟨h1, m, h2, h3, h4⟩ := h
  refine ⟨by rw [ea]; exact (el _ (.inl h1)).trans h1, m, by rw [ea]; exact h2, fun s b hx => ?_, by rw [ek, e]; exact h4⟩
  rw [ek] at hx
  rw [e]
  exact ⟨(h3 s b hx).1, (h3 s b hx).2.1, (el _ (.inr ⟨s, (h3 s b hx).2.2⟩)).trans (h3 s b hx).2.2⟩

/-- The struct alone turned: the epoch now, the counts. -/
theorem IsModel.struct {w w' : World} {B : MB} {S S' : Mst} (h : IsModel w B S) (ho : PObj w' B S') (hs : w.heap.size ≤ w'.heap.size) (hk : ∀ g, g < w.heap.size → g ≠ B.mp → w'.heap[g]? = w.heap[g]?)
    (e1 : S'.cfg = S.cfg) (e2 : S'.ms = S.ms) (e3 : S'.told = S.told) (e4 : S'.L = S.L) (e5 : S'.seals = S.seals) (e6 : S'.holds = S.holds) (hi : S'.Inv) : IsModel w' B S' := by
  have hn : ∀ g, B.lab g ≠ .no → B.lab g ≠ .obj → w'.heap[g]? = w.heap[g]? := fun g h1 h2 => hk g (h.lt g h1) (fun e => h2 (by rw [e]; exact h.obj.lb))
  exact ⟨ho, (h.views.keep fun g e => hn g (by rw [e]; simp) (by rw [e]; simp)).cast e1 rfl rfl fun _ e => e, (h.there.keep fun g e => hn g (by rw [e]; simp) (by rw [e]; simp)).cast e4 rfl fun _ e => e,
    (h.marks.keep fun g e => hn g (by rcases e with e | ⟨i, e⟩ | ⟨i, e⟩ <;> (rw [e]; simp)) (by rcases e with e | ⟨i, e⟩ | ⟨i, e⟩ <;> (rw [e]; simp))).cast e2 rfl rfl rfl fun _ _ => rfl,
    (h.told.keep fun g e => hn g (by rcases e with e | ⟨i, e⟩ <;> (rw [e]; simp)) (by rcases e with e | ⟨i, e⟩ <;> (rw [e]; simp))).cast e3 rfl rfl rfl fun _ _ => rfl,
    (h.seals.keep fun g e => hn g (by rcases e with e | ⟨i, e⟩ <;> (rw [e]; simp)) (by rcases e with e | ⟨i, e⟩ <;> (rw [e]; simp))).cast e5 rfl rfl fun _ _ => rfl,
    (h.holds.keep fun g e => hn g (by rcases e with e | ⟨i, e⟩ <;> (rw [e]; simp)) (by rcases e with e | ⟨i, e⟩ <;> (rw [e]; simp))).cast e6 rfl rfl fun _ _ => rfl, hi, fun g e => Nat.lt_of_lt_of_le (h.lt g e) hs⟩
/-- The map of what is there alone turned. -/
theorem IsModel.mapped {w w' : World} {B : MB} {S S' : Mst} (h : IsModel w B S) (ht : HasMap w' B.bt S'.L) (hs : w.heap.size ≤ w'.heap.size) (hk : ∀ g, g < w.heap.size → g ≠ B.bt → w'.heap[g]? = w.heap[g]?)
    (e0 : S' = { S with L := S'.L }) (hi : S'.Inv) : IsModel w' B S' := by
  have hn : ∀ g, B.lab g ≠ .no → B.lab g ≠ .there → w'.heap[g]? = w.heap[g]? := fun g h1 h2 => hk g (h.lt g h1) (fun e => h2 (by rw [e]; exact h.there.lb))
  have ho := h.obj.keep (w' := w') fun g e => hn g (by rw [e]; simp) (by rw [e]; simp)
  generalize S'.L = L' at *
  subst e0
  exact ⟨⟨ho.obj, ho.lb⟩, (h.views.keep fun g e => hn g (by rw [e]; simp) (by rw [e]; simp)).cast rfl rfl rfl fun _ e => e, ⟨ht, h.there.lb⟩,
    (h.marks.keep fun g e => hn g (by rcases e with e | ⟨i, e⟩ | ⟨i, e⟩ <;> (rw [e]; simp)) (by rcases e with e | ⟨i, e⟩ | ⟨i, e⟩ <;> (rw [e]; simp))).cast rfl rfl rfl rfl fun _ _ => rfl,
    (h.told.keep fun g e => hn g (by rcases e with e | ⟨i, e⟩ <;> (rw [e]; simp)) (by rcases e with e | ⟨i, e⟩ <;> (rw [e]; simp))).cast rfl rfl rfl rfl fun _ _ => rfl,
    (h.seals.keep fun g e => hn g (by rcases e with e | ⟨i, e⟩ <;> (rw [e]; simp)) (by rcases e with e | ⟨i, e⟩ <;> (rw [e]; simp))).cast rfl rfl rfl fun _ _ => rfl,
    (h.holds.keep fun g e => hn g (by rcases e with e | ⟨i, e⟩ <;> (rw [e]; simp)) (by rcases e with e | ⟨i, e⟩ <;> (rw [e]; simp))).cast rfl rfl rfl fun _ _ => rfl, hi, fun g e => Nat.lt_of_lt_of_le (h.lt g e) hs⟩
end Go.Proofs.Ytaicecnfodhlcaa
/- The machine's small functions: Operator, seal, Stats. -/
set_option linter.unusedVariables false
set_option linter.unusedSimpArgs false
namespace Go.Proofs.Ytaicecnfodhlcaa
open Go.RowKit Go.Deep

theorem mOperator_any {w : World} {B : MB} {S : Mst} (h : IsModel w B S) (k : ByteArray) (hk : k.size ≤ maxLen) : Calls Try.prog 20 #[.pointer (some ⟨B.mp, 0, none⟩), .string k] w fun e w' => e = .returned (.int .i64 (oprK k S.cfg.op)) ∧ Below w.heap.size w w' :=
  operator_any B.mp k S.cfg.op w hk h.obj.cells.2.2.1 h.inv.cfg.op.1 h.inv.cfg.op.2

/-- The epoch is sealed. -/
def Mst.sealed (S : Mst) : Mst := { S with now := S.now + 1 }
theorem Mst.Inv.sealed {S : Mst} (h : S.Inv) (hn : S.now < 1099511627776) : S.sealed.Inv :=
  ⟨h.cfg, h.msl, h.mrow, h.tdl, h.rise, h.may, ⟨by have := h.now; show 1 ≤ S.now + 1; omega, by show S.now + 1 ≤ _; omega⟩, fun s e he => by have := h.old s e he; exact ⟨this.1, this.2.1, this.2.2.1, by show e < S.now + 1; omega⟩, h.slk, h.sok, h.cnt, h.tms, h.tok⟩

theorem set_obj {w : World} {g : Nat} {cs : Array Value} {t : TypeId} {fr : Nat × Nat} (h : w.heap[g]? = some (.cells cs t fr)) (k : Nat) (v : Value) : (w.setCell ⟨g, k, none⟩ v).heap[g]? = some (.cells (cs.setIfInBounds k v) t fr) := by
  unfold World.setCell
  simp [Array.getElem?_modify, h]

set_option maxHeartbeats 1000000 in
theorem seal_full {w : World} {B : MB} {S : Mst} (h : IsModel w B S) (hn : S.now = 1099511627776) : Calls Try.prog 65 #[.pointer (some ⟨B.mp, 0, none⟩)] w fun e w' => e = .returned (.tuple #[.int .i64 0, .int .i64 2]) ∧ w = w' := by
  obtain ⟨_, _, _, _, _, _, _, c15, _⟩ := h.obj.cells
  rw [hn] at c15
  clear h
  go_enter Try.func65, Try.ntmps65
  go_wp2_with fail
  go_ret2
  exact ⟨rfl, rfl⟩
set_option maxHeartbeats 1000000 in
theorem seal_ok {w : World} {B : MB} {S : Mst} (h : IsModel w B S) (hn : S.now < 1099511627776) : Calls Try.prog 65 #[.pointer (some ⟨B.mp, 0, none⟩)] w fun e w' => e = .returned (.tuple #[.int .i64 S.now, .int .i64 0]) ∧ IsModel w' B S.sealed ∧ Chg [B.mp] w w' := by
  obtain ⟨_, _, _, _, _, _, _, c15, _⟩ := h.obj.cells
  have hobj := h.obj.obj
  have fr := frozen_blk hobj 15
  have h1 := h.inv.now.1
  have hne : (S.now == 1099511627776) = false := by simp; omega
  have hfin : IsModel (w.setCell ⟨B.mp, 15, none⟩ (.int .i64 (S.now + 1))) B S.sealed := by
    refine h.struct ⟨?_, h.obj.lb⟩ (by simp [World.setCell]) (fun g hg hne => Below.heap_setCell _ _ _ _ hne) rfl rfl rfl rfl rfl rfl (h.inv.sealed hn)
    rw [set_obj hobj]; rfl
  have Hfin := Lib.hid hfin
  clear hfin hobj h
  generalize S.now = n at *
  go_enter Try.func65, Try.ntmps65
  go_wp2_with fail
  go_ret2
  exact ⟨rfl, Hfin.out, Chg.set _ (by simp) _⟩

theorem HasMap.len {w : World} {b : Nat} {L : List Rw} (h : HasMap w b L) (ty : TypeId) : (Builtin.len_ #[83] ty #[.map (some b)]).run Try.prog w = .ok (.int .i64 L.length) w := by
  obtain ⟨m, h1, h2⟩ := h
  have h3 := h1.len (P := Try.prog) Try.underlying83 ty
  rw [h3, h2.length_eq, List.length_map]

abbrev statV (t l o f c n : Int) : Value := .agg #[.int .i64 t, .int .i64 l, .int .i64 o, .int .i64 f, .int .i64 c, .int .i64 n]
theorem bodyPost_stat {fn : Func} {p : Tmp} (h : fn.results = #[.cell p 39]) {a : Act} {w : World} {R : Ending → World → Prop} {g : Nat} {x1 x2 x3 x4 x5 x6 : Int} (hp : a.tmps.getD p undef = .pointer (some ⟨g, 0, none⟩))
    (hb : w.heap[g]? = some (.cells #[.int .i64 x1, .int .i64 x2, .int .i64 x3, .int .i64 x4, .int .i64 x5, .int .i64 x6] 39 (0, 0))) (hd : a.defers = []) (hR : R (.returned (statV x1 x2 x3 x4 x5 x6)) w) : bodyPost Try.prog fn R .ret a w :=
  bodyPost_ret (results_cell_row h a.tmps w g 39 _ (0, 0) _ hp hb Try.underlying39 rfl (by kernel_rfl)) hd hR
theorem drew_blk {w : World} {g : Nat} {o : Obj} (h : w.heap[g]? = some o) : w.drew.heap[g]? = some o := h
theorem blk_set {w : World} {g k : Nat} {o : Obj} {j : Nat} {v : Value} (h : w.heap[g]? = some o) (hn : g ≠ k) : (w.setCell ⟨k, j, none⟩ v).heap[g]? = some o := by rw [Below.heap_setCell _ _ _ _ hn]; exact h
/-- The counts as they are told. -/
def Mst.statsV (S : Mst) : Value := statV S.cnt.t S.cnt.l S.cnt.o S.cnt.f S.L.length S.now

set_option maxHeartbeats 4000000 in
theorem stats_any {w : World} {B : MB} {S : Mst} (h : IsModel w B S) : Calls Try.prog 13 #[.pointer (some ⟨B.mp, 0, none⟩)] w fun e w' => e = .returned S.statsV ∧ Below w.heap.size w w' := by
  obtain ⟨_, _, _, _, c12, _, _, c15, _, _, c18, c19, c20, c21, c22, c23⟩ := h.obj.cells
  have hb : Below w.heap.size w ((w.alloc (.cells #[.int .i64 0, .int .i64 0, .int .i64 0, .int .i64 0, .int .i64 0, .int .i64 0] 39)).alloc (.cells #[.int .i64 S.cnt.t, .int .i64 S.cnt.l, .int .i64 S.cnt.o, .int .i64 S.cnt.f, .int .i64 0, .int .i64 0] 39)) := ((Below.refl _ _).alloc (Nat.le_refl _) _).alloc (by simp) _
  have h2 := h.below hb
  have hlen := h2.there.map.keep (w' := ((w.alloc (.cells #[.int .i64 0, .int .i64 0, .int .i64 0, .int .i64 0, .int .i64 0, .int .i64 0] 39)).alloc (.cells #[.int .i64 S.cnt.t, .int .i64 S.cnt.l, .int .i64 S.cnt.o, .int .i64 S.cnt.f, .int .i64 0, .int .i64 0] 39)).drew) rfl
  have hl3 := fun ty => hlen.len ty
  obtain ⟨_, _, _, _, d12, _, _, d15, _⟩ := h2.obj.cells
  have hr2 : ((w.alloc (.cells #[.int .i64 0, .int .i64 0, .int .i64 0, .int .i64 0, .int .i64 0, .int .i64 0] 39)).alloc (.cells #[.int .i64 S.cnt.t, .int .i64 S.cnt.l, .int .i64 S.cnt.o, .int .i64 S.cnt.f, .int .i64 0, .int .i64 0] 39)).heap[w.heap.size]? = some (.cells #[.int .i64 0, .int .i64 0, .int .i64 0, .int .i64 0, .int .i64 0, .int .i64 0] 39 (0, 0)) := (blk_old (by simp)).trans (blk_at rfl)
  have hr3 : ((w.alloc (.cells #[.int .i64 0, .int .i64 0, .int .i64 0, .int .i64 0, .int .i64 0, .int .i64 0] 39)).alloc (.cells #[.int .i64 S.cnt.t, .int .i64 S.cnt.l, .int .i64 S.cnt.o, .int .i64 S.cnt.f, .int .i64 0, .int .i64 0] 39)).heap[w.heap.size + 1]? = some (.cells #[.int .i64 S.cnt.t, .int .i64 S.cnt.l, .int .i64 S.cnt.o, .int .i64 S.cnt.f, .int .i64 0, .int .i64 0] 39 (0, 0)) := blk_at (by simp)
  have hmp : B.mp < w.heap.size := h.lt _ (by rw [h.obj.lb]; simp)
  have Hb := Lib.hid hb
  clear h h2 hlen hb
  unfold Mst.statsV
  generalize S.cnt.t = xt at *
  generalize S.cnt.l = xl at *
  generalize S.cnt.o = xo at *
  generalize S.cnt.f = xf at *
  generalize S.now = xn at *
  generalize S.L.length = xc at *
  go_enter Try.func13, Try.ntmps13
  go_wp2_with fail
  generalize (w.alloc (.cells #[.int .i64 0, .int .i64 0, .int .i64 0, .int .i64 0, .int .i64 0, .int .i64 0] 39)).alloc (.cells #[.int .i64 xt, .int .i64 xl, .int .i64 xo, .int .i64 xf, .int .i64 0, .int .i64 0] 39) = W at *
  have r0 := cell_blk hr2 0
  have r1 := cell_blk hr2 1
  have r2 := cell_blk hr2 2
  have r3 := cell_blk hr2 3
  have r4 := cell_blk hr2 4
  have r5 := cell_blk hr2 5
  have s0 := cell_blk hr3 0
  have s1 := cell_blk hr3 1
  have s2 := cell_blk hr3 2
  have s3 := cell_blk hr3 3
  have s4 := cell_blk hr3 4
  have s5 := cell_blk hr3 5
  simp at r0 r1 r2 r3 r4 r5 s0 s1 s2 s3 s4 s5
  have f2 := frozen_blk hr2
  have f3 := frozen_blk hr3
  clear c12 c15 c18 c19 c20 c21 c22 c23
  have Hr2 := Lib.hid hr2
  have hmp2 : ¬ B.mp = w.heap.size := by omega
  have hmp3 : ¬ B.mp = w.heap.size + 1 := by omega
  clear hr2 hr3
  go_region
  go_wp2_with fail
  refine bodyPost_stat (x1 := xt) (x2 := xl) (x3 := xo) (x4 := xf) (x5 := xc) (x6 := xn) rfl rfl ?_ rfl ⟨rfl, ?_⟩
  · have h2 := Hr2.out
    have hx := drew_blk (set_obj (set_obj (set_obj (set_obj (set_obj (set_obj (blk_set (k := w.heap.size + 1) (j := 5) (v := .int .i64 xn) (blk_set (k := w.heap.size + 1) (j := 4) (v := .int .i64 xc) h2 (Nat.ne_of_lt (Nat.lt_succ_self _))) (Nat.ne_of_lt (Nat.lt_succ_self _))) 0 (.int .i64 xt)) 1 (.int .i64 xl)) 2 (.int .i64 xo)) 3 (.int .i64 xf)) 4 (.int .i64 xc)) 5 (.int .i64 xn))
    exact hx
  · have h0 : w.heap.size ≤ w.heap.size := Nat.le_refl _
    have h1 : w.heap.size ≤ w.heap.size + 1 := Nat.le_succ _
    exact ((((((((Hb.out.setCell (p := ⟨w.heap.size + 1, 4, none⟩) h1 _).setCell (p := ⟨w.heap.size + 1, 5, none⟩) h1 _).setCell (p := ⟨w.heap.size, 0, none⟩) h0 _).setCell (p := ⟨w.heap.size, 1, none⟩) h0 _).setCell (p := ⟨w.heap.size, 2, none⟩) h0 _).setCell (p := ⟨w.heap.size, 3, none⟩) h0 _).setCell (p := ⟨w.heap.size, 4, none⟩) h0 _).setCell (p := ⟨w.heap.size, 5, none⟩) h0 _).drew
end Go.Proofs.Ytaicecnfodhlcaa
/- slices.SortFunc at rows. -/
set_option linter.unusedVariables false
set_option linter.unusedSimpArgs false
namespace Go.Proofs.Ytaicecnfodhlcaa
open Go.RowKit Go.Shelf Go.Sort

def rcmp (x y : Rw) : Int := ccmp x.cell y.cell
theorem cells1_row : Cells1 rowL := fun x u hu => by simp at hu; rcases hu with rfl | rfl | rfl | rfl | rfl | rfl | rfl <;> rfl

set_option maxHeartbeats 2000000 in
theorem rowCmp_any (x y : Rw) (w : World) :
    Calls Try.prog 71 #[.agg (rowL x).toArray, .agg (rowL y).toArray] w fun e w' => e = .returned (.int .i64 (rcmp x y)) ∧ ∃ q os', w' = Sort.grow (w.drewN q) os' := by
  have hc := fun W => compare_any x.cell.v x.cell.k x.cell.s y.cell.v y.cell.k y.cell.s W
  rw [show ccmp ⟨x.cell.v, x.cell.k, x.cell.s⟩ ⟨y.cell.v, y.cell.k, y.cell.s⟩ = rcmp x y from rfl] at hc
  generalize rcmp x y = z at *
  obtain ⟨⟨x1, x2, x3⟩, ⟨x4, x5, x6, x7⟩⟩ := x
  obtain ⟨⟨y1, y2, y3⟩, ⟨y4, y5, y6, y7⟩⟩ := y
  dsimp only at *
  go_enter Try.func71, Try.ntmps71
  go_wp2_with fail
  refine (hc _).mono ?_
  rintro e w1 ⟨rfl, q, os, rfl⟩
  go_wp2_with fail
  go_ret
  refine ⟨rfl, q, #[.cells #[.int .i64 x1, .string x2, .int .i64 x3, .int .i64 x4, .int .i64 x5, .int .i64 x6, .int .i64 x7] 53, .cells #[.int .i64 y1, .string y2, .int .i64 y3, .int .i64 y4, .int .i64 y5, .int .i64 y6, .int .i64 y7] 53] ++ os, ?_⟩
  rw [Sort.alloc_eq_grow, Sort.alloc_eq_grow, Sort.grow_grow]
  show Sort.grow (Sort.grow (w.drewN q) _) os = _
  rw [Sort.grow_grow]
  rfl

theorem swo_row : SWO (ltOf rcmp) where
  irrefl x := swo_cell.irrefl x.cell
  trans x y z h1 h2 := swo_cell.trans x.cell y.cell z.cell h1 h2
  ntrans x y z h1 h2 := swo_cell.ntrans x.cell y.cell z.cell h1 h2

/-- Rows that rise are one list only. -/
theorem rise_eq {xs ys : List Rw} (hx : Rise (xs.map (·.cell))) (hy : Rise (ys.map (·.cell))) (h : xs.Perm ys) : xs = ys := by
  unfold Rise at hx hy
  rw [List.pairwise_map] at hx hy
  refine List.Perm.eq_of_pairwise (fun a b _ _ h1 h2 => ?_) hx hy h
  have := tot_cell.anti a.cell b.cell
  omega

set_option maxHeartbeats 1000000 in
theorem sortRows_any (g cap : Nat) (xs : List Rw) (w : World) (B : Nat) (ho : Own 53 7 rowL B w (.slice (some ⟨g, 0, none⟩) xs.length cap) xs) (hl : xs.length ≤ 1000000000) (hn : (xs.map (·.cell)).Nodup) :
    Calls Try.prog 70 #[.slice (some ⟨g, 0, none⟩) xs.length cap, .func (.func 71) #[] #[]] w fun e w' => e = .returned (.tuple #[]) ∧ ∃ ys, ys.Perm xs ∧ Rise (ys.map (·.cell)) ∧ Own 53 7 rowL B w' (.slice (some ⟨g, 0, none⟩) xs.length cap) ys ∧ Chg [g] w w' := by
  obtain ⟨hfl, hrow⟩ := ho
  rcases hrow with ⟨h, _⟩ | ⟨g', cap', cur, e, hB, hb, hcap, hmax, hcs, htake⟩
  · cases h
  cases e
  have hH : HoldsK rowL 7 w g 0 xs.toArray := by
    intro j hj
    simp at hj
    refine ⟨?_, by simp [World.frozen?, hb]⟩
    have hs : j < (flatK rowL 7 xs.toArray).size := by simpa using hj
    have e1 : (flatK rowL 7 xs.toArray).toList[j]? = (cur.toList.take (xs.length * 7))[j]? := by rw [flatK_eq (enc := rowL) (k := 7) (fun _ => rfl), htake]
    rw [List.getElem?_take, if_pos hj, Array.getElem?_toList, Array.getElem?_toList, Array.getElem?_eq_getElem hs] at e1
    rw [getElem!_pos (flatK rowL 7 xs.toArray) j hs]
    simp [World.cell?, hb, ← e1]
  have eg : ∀ args w, (callFunc 71 args).run Try.prog w = .ok (.enter 71 args) w := enters_of Try.func71 (by kernel_rfl) rfl
  have h := AnyQ.slices_SortFunc Try.sortRows 7 (fun w => by kernel_rfl) (fun w => by kernel_rfl) rowL (fun _ => rfl) (fun x v hv => cells1_row x v hv) rcmp swo_row 71 #[] g 0 cap xs.toArray w eg
    (fun _ _ _ _ x y => rowCmp_any x y _) hH (lt_of_block hb) (by simp; omega)
  change Calls Try.prog 70 _ _ _ at h
  rw [show xs.toArray.size = xs.length from by simp] at h
  refine h.mono fun e w' ⟨he, d', n, os, hp, hs, hw⟩ => ⟨he, d'.toList, ?_⟩
  obtain ⟨hp1, _, hp3⟩ := hp
  have hlen : d'.toList.length = xs.length := by simpa using hp1
  have hdl : d'.size = xs.length := by simpa using hlen
  have hperm : d'.toList.Perm xs := by
    have e1 : d'.extract 0 xs.length = d' := by rw [← hdl]; simp
    have e2 : xs.toArray.extract 0 xs.length = xs.toArray := by rw [show xs.length = xs.toArray.size from by simp]; simp
    rw [e1, e2] at hp3
    exact hp3
  have hrise : Rise (d'.toList.map (·.cell)) := by
    have hnd : (d'.toList.map (·.cell)).Nodup := (hperm.map _).nodup_iff.2 hn
    unfold Rise
    rw [List.pairwise_map, List.pairwise_iff_getElem]
    intro i j hi hj hij
    have h1 := hs i j (Nat.zero_le _) hij (by omega)
    have hi' : i < d'.size := by simpa using hi
    have hj' : j < d'.size := by simpa using hj
    rw [getElem!_pos d' i hi', getElem!_pos d' j hj'] at h1
    have h1' : ¬ ccmp d'[j].cell d'[i].cell < 0 := of_decide_eq_false h1
    simp only [Array.getElem_toList]
    have h2 := tot_cell.anti d'[i].cell d'[j].cell
    rcases Int.lt_trichotomy (ccmp d'[i].cell d'[j].cell) 0 with h3 | h3 | h3
    · exact h3
    · exfalso
      have h4 := tot_cell.eq _ _ h3
      have h5 := List.pairwise_iff_getElem.1 hnd i j (by simpa using hi) (by simpa using hj) hij
      apply h5
      simpa using h4
    · omega
  have hheap : w'.heap = w.heap.modify g (onCells (putCells id 0 (flatK rowL 7 d'))) ++ os := by
    rw [hw]; rfl
  have hg := lt_of_block hb
  have hbg : w'.heap[g]? = some (.cells (putCells id 0 (flatK rowL 7 d') cur) 53 (0, 0)) := by
    rw [hheap, Array.getElem?_append_left (by simpa using hg), Array.getElem?_modify, if_pos rfl, hb]
    rfl
  have hfk : (flatK rowL 7 d').toList = d'.toList.flatMap rowL := by
    have := flatK_eq (enc := rowL) (k := 7) (fun _ => rfl) d'.toList
    simpa using this
  have hfs : (flatK rowL 7 d').size = xs.length * 7 := by rw [← Array.length_toList, hfk, flat_length (enc := rowL) (sz := 7) (fun _ => rfl), hlen]
  refine ⟨hperm, hrise, ?_, ?_⟩
  · refine ⟨flat_length (enc := rowL) (sz := 7) (fun _ => rfl) _, .inr ⟨g, cap, _, by rw [hlen], hB, hbg, by omega, hmax, ?_, ?_⟩⟩
    · simp [putCells, hcs]
    · rw [hlen]
      apply List.ext_getElem?
      intro j
      rw [List.getElem?_take]
      by_cases hj : j < xs.length * 7
      · rw [if_pos hj, ← hfk]
        have hs2 : j < (flatK rowL 7 d').size := by rw [hfs]; exact hj
        rw [Array.getElem?_toList, Array.getElem?_toList, Array.getElem?_eq_getElem hs2]
        have hc : j < cur.size := by rw [hcs]; exact Nat.lt_of_lt_of_le hj (Nat.mul_le_mul_right _ hcap)
        rw [putCells, Array.getElem?_mapIdx, Array.getElem?_eq_getElem hc]
        simp only [Option.map_some, Nat.zero_le, true_and, Nat.zero_add, Nat.sub_zero, id]
        rw [if_pos hs2, getElem!_pos (flatK rowL 7 d') j hs2]
      · rw [if_neg hj, List.getElem?_eq_none (by rw [flat_length (enc := rowL) (sz := 7) (fun _ => rfl), hlen]; omega)]
  · refine ⟨by rw [hw]; rfl, by rw [hw]; rfl, by rw [hw]; rfl, by rw [hheap]; simp, fun k hk hn => ?_⟩
    rw [hheap, Array.getElem?_append_left (by simpa using hk), Array.getElem?_modify, if_neg (fun e => hn (by simp [e]))]
theorem sortRows_none (a : Option Addr) (cap : Nat) (fv : Value) (w : World) : Calls Try.prog 70 #[.slice a 0 cap, fv] w fun e w' => e = .returned (.tuple #[]) ∧ w' = w := by
  have h := AnyF.slices_SortFunc_none Try.sortRows a cap fv w
  exact h
end Go.Proofs.Ytaicecnfodhlcaa
/- rows: those of a map's rows that a function takes, in order. -/
set_option linter.unusedVariables false
set_option linter.unusedSimpArgs false
namespace Go.Proofs.Ytaicecnfodhlcaa
open Go.RowKit Go.Deep

abbrev rowP (r : Rw) : Cell × Value := (r.cell, r.agg.v)
def unAg : Value → Ag
  | .agg #[.int _ a, .int _ b, .int _ c, .int _ d] => ⟨a, b, c, d⟩
  | _ => default
theorem rowP_inv (r : Rw) : (⟨(rowP r).1, unAg (rowP r).2⟩ : Rw) = r := rfl
theorem st_row : SlT Try.prog 37 53 7 64 := SlT.mk' (z := .agg #[.int .i64 0, .string ⟨#[]⟩, .int .i64 0, .int .i64 0, .int .i64 0, .int .i64 0, .int .i64 0]) Try.underlying37 (by decide) (by kernel_rfl) rfl
theorem perm_rowP {xs ys : List Rw} (h : (xs.map rowP).Perm (ys.map rowP)) : xs.Perm ys := by
  have h2 := h.map fun q => (⟨q.1, unAg q.2⟩ : Rw)
  rw [List.map_map, List.map_map] at h2
  have hid : ((fun q : Cell × Value => (⟨q.1, unAg q.2⟩ : Rw)) ∘ rowP) = id := by funext r; exact rowP_inv r
  rw [hid, List.map_id, List.map_id] at h2
  exact h2

/-- What has been taken, of what is still to come. -/
def RowsDone (p : Cell → Bool) (m : List (Cell × Value)) (done : List Rw) (left : List (Cell × Value)) : Prop := ((done.map rowP) ++ left.filter fun q => p q.1).Perm (m.filter fun q => p q.1)
theorem RowsDone.fin {p : Cell → Bool} {m left : List (Cell × Value)} {done L : List Rw} (h : RowsDone p m done left) (hp : m.Perm (L.map rowP)) (h0 : left = []) : done.Perm (L.filter fun r => p r.cell) := by
  subst h0
  unfold RowsDone at h
  simp only [List.filter_nil, List.append_nil] at h
  apply perm_rowP
  refine h.trans ((hp.filter _).trans ?_)
  rw [List.filter_map]
  exact List.Perm.refl _
/-- One comes. -/
theorem left_cons {left : List (Cell × Value)} (hn : (left.map (·.1)).Nodup) {q : Cell × Value} (hq : q ∈ left) : (q :: left.filter fun x => decide (x.1 ≠ q.1)).Perm left := by
  induction left with
  | nil => cases hq
  | cons x r ih =>
    simp only [List.map_cons, List.nodup_cons] at hn
    rcases List.mem_cons.1 hq with e | e
    · subst e
      have h1 : (r.filter fun x => decide (x.1 ≠ q.1)) = r := by
        rw [List.filter_eq_self]
        intro y hy
        simp only [ne_eq, decide_not, Bool.not_eq_true', decide_eq_false_iff_not]
        intro e
        exact hn.1 (by rw [← e]; exact List.mem_map.2 ⟨y, hy, rfl⟩)
      rw [List.filter_cons_of_neg (by simp), h1]
    · have hne : x.1 ≠ q.1 := fun e2 => hn.1 (by rw [e2]; exact List.mem_map.2 ⟨q, e, rfl⟩)
      rw [List.filter_cons_of_pos (by simpa using hne)]
      exact (List.Perm.swap x q _).trans ((ih hn.2 e).cons x)
theorem RowsDone.step {p : Cell → Bool} {m left : List (Cell × Value)} {done : List Rw} (h : RowsDone p m done left) (hn : (left.map (·.1)).Nodup) {r : Rw} (hq : rowP r ∈ left) (hp : p r.cell = true) : RowsDone p m (done ++ [r]) (left.filter fun x => decide (x.1 ≠ r.cell)) := by
  unfold RowsDone at *
  refine List.Perm.trans ?_ h
  rw [List.map_append, List.append_assoc]
  refine List.Perm.append_left _ ?_
  have h1 := (left_cons hn hq).filter fun q => p q.1
  rw [List.filter_cons_of_pos (by simpa using hp)] at h1
  exact h1
theorem RowsDone.skip {p : Cell → Bool} {m left : List (Cell × Value)} {done : List Rw} (h : RowsDone p m done left) (hn : (left.map (·.1)).Nodup) {q : Cell × Value} (hq : q ∈ left) (P : p q.1 = false) : RowsDone p m done (left.filter fun x => decide (x.1 ≠ q.1)) := by
  unfold RowsDone at *
  refine List.Perm.trans ?_ h
  refine List.Perm.append_left _ ?_
  have h1 := (left_cons hn hq).filter fun q => p q.1
  rw [List.filter_cons_of_neg (by simp [P])] at h1
  exact h1

/-- Each cell. -/
def allP (c : Cell) : Bool := true

set_option maxHeartbeats 400000 in
theorem all_any (c : Cell) (w : World) : Calls Try.prog 46 #[.agg #[.int .i64 c.v, .string c.k, .int .i64 c.s]] w fun e w' => e = .returned (.bool (allP c)) ∧ Below w.heap.size w w' := by
  go_enter Try.func46, Try.ntmps46
  go_wp2_with fail
  go_ret
  exact ⟨rfl, by first | exact Below.refl _ _ | exact (Below.refl _ _).alloc (Nat.le_refl _) _⟩

set_option maxHeartbeats 4000000 in
set_option maxRecDepth 100000 in
theorem rows_all (b : Nat) (L : List Rw) (w : World) (h : HasMap w b L) (hr : Rise (L.map (·.cell))) (hmax : L.length ≤ 100000000) :
    Calls Try.prog 45 #[.map (some b), .func (.func 46) #[] #[]] w fun e w' => ∃ v, e = .returned v ∧ Own 53 7 rowL w.heap.size w' v (L.filter fun r => allP r.cell) ∧ Below w.heap.size w w' := by
  obtain ⟨m, hm, hp⟩ := h
  have hbr := hm.lt
  have hnd := hm.nd
  have hml : m.length ≤ 100000000 := by have := hp.length_eq; simp at this; omega
  have Hp := Lib.hid hp
  have Hr := Lib.hid hr
  clear hp hmax hr
  go_enter Try.func45, Try.ntmps45
  go_wp2_with (at_range; refine wpList_rangeM rfl _ rfl Try.underlying83 b m rfl hm ?_)
  intro w1 hrg hg1 hs1
  have hb1 : Below w.heap.size w w1 := (Below.refl _ _).grown hg1 (Nat.le_refl _) (fun k hk => by cases hk)
  clear hm hg1
  go_wp2_with fail
  go_loopg [5] m.length (fun g v wr => ∃ done left, g = left.length ∧ Ranging cellV wr b w.heap.size m left ∧ Own 53 7 rowL (w.heap.size + 1) wr v done ∧ done.length + left.length ≤ m.length ∧ RowsDone (fun c => allP c) m done left ∧ Below w.heap.size w wr ∧ w.heap.size + 1 ≤ wr.heap.size)
  case atStart => exact ⟨[], m, rfl, hrg, Own.nil _ _ _ _ _, by simp, by simp [RowsDone], hb1, by omega⟩
  case round =>
    obtain ⟨done, left, hg, hrg, hown, hdl, hperm, hb, hsz⟩ := hrel
    have Hg := Lib.hid hg
    have Hown := Lib.hid hown
    have Hperm := Lib.hid hperm
    clear hg hown hperm
    obtain ⟨o, cap, rfl, hcap, _, hov, hun⟩ := Hown.out.sl fun _ => rfl
    go_wp2_with (at_next; refine wpList_nextC rfl _ rfl b w.heap.size m left rfl hrg ?_ ?_)
    · intro h0
      have hperm' := Hperm.out.fin Hp.out h0
      have hnd' : (done.map (·.cell)).Nodup := (hperm'.map _).nodup_iff.2 (Rise.nodup (List.Pairwise.sublist (List.Sublist.map _ List.filter_sublist) Hr.out))
      have Hpf := Lib.hid hperm'
      have Hnf := Lib.hid hnd'
      have Hrf := Lib.hid (show Rise ((L.filter fun r => allP r.cell).map (·.cell)) from List.Pairwise.sublist (List.Sublist.map _ List.filter_sublist) Hr.out)
      clear h0 hperm' hnd'
      go_wp2_with fail
      rcases Nat.eq_zero_or_pos done.length with hd | hd
      · obtain rfl := List.eq_nil_of_length_eq_zero hd
        refine (sortRows_none _ _ _ _).mono ?_
        rintro e w' ⟨rfl, hw'⟩
        subst hw'
        go_wp2_with fail
        go_ret
        refine ⟨_, rfl, ?_, hb⟩
        rw [show (L.filter fun r => allP r.cell) = [] from Hpf.out.symm.eq_nil]
        exact Own.mono (B := w.heap.size + 1) (B' := w.heap.size) Hown.out (by omega)
      · obtain ⟨g, rfl, hg1, hg2⟩ := Hown.out.pos hd
        refine (sortRows_any g cap done _ _ Hown.out (by omega) Hnf.out).mono ?_
        rintro e w' ⟨rfl, ys, hy1, hy2, ho', hch⟩
        have hys : ys = L.filter fun r => allP r.cell := rise_eq hy2 Hrf.out (hy1.trans Hpf.out)
        have Hys := Lib.hid hys
        have hlys := hy1.length_eq
        have Hlys := Lib.hid hlys
        clear hys hy1 hlys
        go_wp2_with fail
        go_ret
        refine ⟨_, rfl, ?_, Below.chain hb hch (by omega) (by simp; omega)⟩
        rw [← Hys.out]
        exact Own.mono (B := w.heap.size + 1) (B' := w.heap.size) ho' (by omega)
    · intro c y w2 hpl hrg2 hgr2 hs2 hen
      have hs2a := Nat.le_of_eq hs2
      have hs2b := Nat.le_of_eq hs2.symm
      clear hs2
      have hym := hrg.sub.subset hpl
      have hb2 : Below w.heap.size w w2 := hb.grown hgr2 (by omega) (fun k hk => by cases hk; exact Nat.le_refl _)
      have hown2 := Hown.out.grown hgr2 (by omega)
      obtain ⟨r, hrL, hre⟩ : ∃ r ∈ L, (r.cell, r.agg.v) = (c, y) := by simpa using (Hp.out.mem_iff.1 hym)
      obtain ⟨rc, ra⟩ := r
      simp only [Prod.mk.injEq] at hre
      obtain ⟨rfl, rfl⟩ := hre
      have hln : (left.map (·.1)).Nodup := hnd.sublist (List.Sublist.map _ hrg.sub)
      have hlp := left_perm hln hpl
      have hlen := hlp.length_eq
      have Hstep := Lib.hid (fun hP => Hperm.out.step (r := ⟨rc, ra⟩) hln hpl hP)
      have Hskip := Lib.hid (fun hP => Hperm.out.skip hln hpl (P := hP))
      have Hown2 := Lib.hid hown2
      have Hlen := Lib.hid hlen
      clear hown2 hlp hym hrL hlen
      obtain ⟨cv, ck, cs⟩ := rc
      obtain ⟨ac, au, an, ax⟩ := ra
      dsimp only at *
      have hb22 : Below w2.heap.size w2 ((w2.alloc (.cells #[.int .i64 cv, .string ck, .int .i64 cs] 46)).alloc (.cells #[.int .i64 ac, .int .i64 au, .int .i64 an, .int .i64 ax] 51)) := ((Below.refl _ _).alloc (Nat.le_refl _) _).alloc (by simp) _
      have e6 : ((w2.alloc (.cells #[.int .i64 cv, .string ck, .int .i64 cs] 46)).alloc (.cells #[.int .i64 ac, .int .i64 au, .int .i64 an, .int .i64 ax] 51)).heap[w2.heap.size]? = some (.cells #[.int .i64 cv, .string ck, .int .i64 cs] 46 (0, 0)) := (blk_old (by simp)).trans (blk_at rfl)
      have e7 : ((w2.alloc (.cells #[.int .i64 cv, .string ck, .int .i64 cs] 46)).alloc (.cells #[.int .i64 ac, .int .i64 au, .int .i64 an, .int .i64 ax] 51)).heap[w2.heap.size + 1]? = some (.cells #[.int .i64 ac, .int .i64 au, .int .i64 an, .int .i64 ax] 51 (0, 0)) := blk_at (by simp)
      have hz22 : ((w2.alloc (.cells #[.int .i64 cv, .string ck, .int .i64 cs] 46)).alloc (.cells #[.int .i64 ac, .int .i64 au, .int .i64 an, .int .i64 ax] 51)).heap.size = w2.heap.size + 1 + 1 := by simp
      go_wp2_with fail
      refine (all_any ⟨cv, ck, cs⟩ _).mono ?_
      rintro e w3 ⟨rfl, hb3⟩
      have hz3 := hb3.size
      rw [hz22] at hz3
      obtain ⟨q, hq⟩ : ∃ q : Bool, q = allP ⟨cv, ck, cs⟩ := ⟨_, rfl⟩
      rw [← hq]
      have g6 := (hb3.block _ (by simp; omega)).trans e6
      have g7 := (hb3.block _ (by simp)).trans e7
      have hb23 := Below.trans hb22 (hb3.mono (by simp; omega))
      have Hq := Lib.hid hq
      have Hb23 := Lib.hid hb23
      have hrg3 : Ranging cellV w3 b w.heap.size m (left.filter fun q => decide (q.1 ≠ (⟨cv, ck, cs⟩ : Cell))) := by
        have h := hrg2.keep (hb23.block _ (by have := hrg2.lt; omega)) (hb23.block _ (by have := hrg2.lt; omega))
        simpa using h
      have Hrg3 := Lib.hid hrg3
      have Hown3 := Lib.hid (Hown2.out.below hb23)
      have hb03 : Below w.heap.size w w3 := hb2.trans (hb23.mono (by omega))
      have Hlen2 := Lib.hid (show (left.filter fun q => decide (q.1 ≠ (⟨cv, ck, cs⟩ : Cell))).length + 1 = left.length from by have := Hlen.out; simpa using this)
      clear hq hb23 hrg3 e6 e7 hb3 hz22 hb22 hrg2 Hown2 Hlen
      cases q
      · go_wp2_with fail
        go_roundg (left.filter fun q => decide (q.1 ≠ (⟨cv, ck, cs⟩ : Cell))).length
        case measure =>
          have := Hlen2.out
          have := Hg.out
          omega
        case rel => exact ⟨done, _, rfl, Hrg3.out, Hown3.out, by have := Hlen2.out; omega, Hskip.out Hq.out.symm, hb03, by omega⟩
      · have c0 := cell_blk g6 0
        have c1 := cell_blk g6 1
        have c2 := cell_blk g6 2
        have k0 := cell_blk g7 0
        have k1 := cell_blk g7 1
        have k2 := cell_blk g7 2
        have k3 := cell_blk g7 3
        simp at c0 c1 c2 k0 k1 k2 k3
        have hownA := Hown3.out.alloc (.cells #[.int .i64 cv, .string ck, .int .i64 cs, .int .i64 ac, .int .i64 au, .int .i64 an, .int .i64 ax] 53)
        have HownA := Lib.hid hownA
        have h9 := sl_new (sz := 7) (enc := rowL) (⟨⟨cv, ck, cs⟩, ⟨ac, au, an, ax⟩⟩ : Rw) w3 53 (cs := #[.int .i64 cv, .string ck, .int .i64 cs, .int .i64 ac, .int .i64 au, .int .i64 an, .int .i64 ax]) rfl
        clear hownA g6 g7
        go_wp2_with (at_builtin; (refine wpList_app st_row rfl _ _ rfl rowL (fun _ => rfl) cells1_row (w.heap.size + 1) _ done rfl HownA.out (some ⟨w3.heap.size, 0, none⟩) 1 1 [⟨⟨cv, ck, cs⟩, ⟨ac, au, an, ax⟩⟩] rfl rfl ?c1 ?c2 ?c3 ?c4 ?_))
        case c1 => exact h9
        case c2 => simp; omega
        case c3 => decide
        case c4 => simp; omega
        intro v' w4 hown' hgr _
        have hov' : ∀ k, some k = Value.ownBlock (.slice o done.length cap) → w.heap.size + 1 ≤ k := fun k hk => (HownA.out.ge hk.symm).1
        have hb4 : Below w.heap.size w w4 := (hb03.alloc (by omega) _).grown hgr (by simp; omega) (fun k hk => by have := hov' k hk.symm; omega)
        have hz4 : w3.heap.size + 1 ≤ w4.heap.size := by have := hgr.size; simpa using this
        have hlt3 := Hrg3.out.lt
        have hrg4 : Ranging cellV w4 b w.heap.size m (left.filter fun q => decide (q.1 ≠ (⟨cv, ck, cs⟩ : Cell))) := by
          refine Hrg3.out.keep ?_ ?_
          · rw [hgr.block _ (by simp; omega) (fun e => by have := hov' _ e; omega), blk_old (by omega)]
          · rw [hgr.block _ (by simp; omega) (fun e => by have := hov' _ e; omega), blk_old (by omega)]
        have Hrg4 := Lib.hid hrg4
        have Hown4 := Lib.hid hown'
        clear hrg4 hown' hgr hov'
        go_wp2_with fail
        go_roundg (left.filter fun q => decide (q.1 ≠ (⟨cv, ck, cs⟩ : Cell))).length
        case measure =>
          have := Hlen2.out
          have := Hg.out
          omega
        case rel => exact ⟨done ++ [⟨⟨cv, ck, cs⟩, ⟨ac, au, an, ax⟩⟩], _, rfl, Hrg4.out, Hown4.out, by have := Hlen2.out; rw [List.length_append]; show done.length + 1 + _ ≤ _; omega, Hstep.out Hq.out.symm, hb4, by omega⟩
end Go.Proofs.Ytaicecnfodhlcaa
/- Map, At. -/
set_option linter.unusedVariables false
set_option linter.unusedSimpArgs false
namespace Go.Proofs.Ytaicecnfodhlcaa
open Go.RowKit Go.Deep

theorem filter_allP (L : List Rw) : (L.filter fun r => allP r.cell) = L := List.filter_eq_self.2 fun _ _ => rfl

set_option maxHeartbeats 1000000 in
theorem mMap_any {w : World} {B : MB} {S : Mst} (h : IsModel w B S) (hmax : S.L.length ≤ 100000000) : Calls Try.prog 14 #[.pointer (some ⟨B.mp, 0, none⟩)] w fun e w' => ∃ v, e = .returned v ∧ Own 53 7 rowL w.heap.size w' v S.L ∧ Below w.heap.size w w' := by
  have hr := rows_all B.bt S.L w h.there.map h.inv.rise hmax
  rw [filter_allP] at hr
  obtain ⟨_, _, _, _, c12, _⟩ := h.obj.cells
  clear h
  go_enter Try.func14, Try.ntmps14
  go_wp2_with fail
  refine hr.mono ?_
  rintro e w1 ⟨v, rfl, ho, hb⟩
  obtain ⟨o, cap, rfl, _⟩ := ho.sl fun _ => rfl
  have Ho := Lib.hid ho
  clear ho
  go_wp2_with fail
  go_ret
  exact ⟨_, rfl, Ho.out, hb⟩

/-- The map of an epoch, as a value. -/
def sealV (B : MB) (S : Mst) (e : Int) : Value := if (S.seals e).isSome then .map (some (B.sk e)) else .map none
theorem PSeals.get {w : World} {B : MB} {S : Mst} (h : PSeals w B S) (e : Int) (ok : Bool) : (Instr.lookup 84 (.map (some B.bs)) (.int .i64 e) ok).run Try.prog w = .ok (if ok then .tuple #[sealV B S e, .bool (S.seals e).isSome] else sealV B S e) w := by
  obtain ⟨_, m, hm, h1, h2⟩ := h
  have hl := MapIs.lookup (P := Try.prog) (t := 84) (kt := 3) keyInt Try.underlying84 hm e ok (z := .map none) (by kernel_rfl)
  change (Instr.lookup _ _ (.int .i64 e) ok).run _ _ = _ at hl
  rw [hl]
  unfold sealV
  cases hs : S.seals e with
  | none => rw [mGet_none (h2 e hs)]; simp
  | some L => rw [mGet_some hm.nd (h1 e L hs).1]; simp

theorem range_nil (w : World) : (Instr.range 83 (.map none)).run Try.prog w = .ok (.pointer (some ⟨w.heap.size, 0, none⟩)) (w.alloc (.mapIter none 0 #[] 0)) := by
  simp only [Instr.range, Sem.run_bind, run_underlying Try.underlying83, Result.andThen, newObj, Sem.run, Sem.run_pure]
  rfl
theorem next_nil (w : World) (it : Nat) (ty : TypeId) (h : w.heap[it]? = some (.mapIter none 0 #[] 0)) : (Instr.next (.pointer (some ⟨it, 0, none⟩)) false ty).run Try.prog w = .ok (.tuple #[.bool false]) w := by
  have hgi : (getObj it).run Try.prog w = .ok (.mapIter none 0 #[] 0) w := by simp [getObj, Sem.run, h]
  simp [Instr.next, hgi, Result.andThen]

set_option maxRecDepth 100000 in
set_option maxHeartbeats 1000000 in
theorem rows_nil (fv : Value) (w : World) : Calls Try.prog 45 #[.map none, fv] w fun e w' => e = .returned (.slice none 0 0) ∧ Below w.heap.size w w' := by
  have hr := range_nil w
  have hn := fun ty => next_nil (w.alloc (.mapIter none 0 #[] 0)) w.heap.size ty (blk_at rfl)
  have hs := sortRows_none none 0 (.func (.func 71) #[] #[])
  go_enter Try.func45, Try.ntmps45
  go_wp2_with fail
  refine wp_loop_rounds 1 ?_
  rw [rounds_succ]
  go_wp2_with fail
  refine (hs _).mono ?_
  rintro e w1 ⟨rfl, rfl⟩
  go_wp2_with fail
  go_ret
  exact ⟨rfl, (Below.refl _ _).alloc (Nat.le_refl _) _⟩
end Go.Proofs.Ytaicecnfodhlcaa
/- A configuration as a value; is it right? -/
set_option linter.unusedVariables false
set_option linter.unusedSimpArgs false
namespace Go.Proofs.Ytaicecnfodhlcaa
open Go.RowKit Go.Deep

def inR (n lo hi : Int) : Bool := decide (lo ≤ n) && decide (n ≤ hi)
def Cfg.nums (c : Cfg) : Bool := inR (c.vs.length : Int) 1 4 && inR c.so 1 8 && inR c.op 1 8 && inR c.sh 1 16 && inR c.sl 2 1048576 && inR c.bx 1 64 && inR c.ad 1 64 && inR c.pi 1 64 && inR c.ch 1 64 && inR c.fr 16 65536 && inR c.inn 1 131072 && inR c.out 1 131072
def Cfg.right (c : Cfg) : Bool := c.vs.all View.ok && c.nums
abbrev cfgV (c : Cfg) (a : Option Addr) (cap : Nat) : Value := .agg #[.slice a c.vs.length cap, .int .i64 c.so, .int .i64 c.op, .int .i64 c.sh, .int .i64 c.sl, .int .i64 c.bx, .int .i64 c.ad, .int .i64 c.pi, .int .i64 c.ch, .int .i64 c.fr, .int .i64 c.inn, .int .i64 c.out]
abbrev cfgO (c : Cfg) (a : Option Addr) (cap : Nat) : Obj := .cells #[.slice a c.vs.length cap, .int .i64 c.so, .int .i64 c.op, .int .i64 c.sh, .int .i64 c.sl, .int .i64 c.bx, .int .i64 c.ad, .int .i64 c.pi, .int .i64 c.ch, .int .i64 c.fr, .int .i64 c.inn, .int .i64 c.out] 26
end Go.Proofs.Ytaicecnfodhlcaa
