/- What the laws' walks share: an operation in a list; SameRows, head. -/
import Derived.Test.YtaicecnfodhlcaaGreatJ22
import Derived.Test.YtaicecnfodhlcaaGreatJ20
import Derived.Test.YtaicecnfodhlcaaGreatJ14
import Derived.Deep.MidRow
set_option linter.unusedVariables false
set_option linter.unusedSimpArgs false
namespace Go.Proofs.YtaicecnfodhlcaaGreat
open Go.RowKit Go.Deep

theorem Sl.at_op {w : World} {a : Option Addr} {xs : List Opx} (h : Sl 25 opL w a xs) {i : Nat} (hi : i < xs.length) :
    ∃ b off, a = some ⟨b, off, none⟩ ∧ b < w.heap.size ∧ ∀ j v, (opL xs[i])[j]? = some v → w.cell? ⟨b, off + i * 25 + j, none⟩ = some v := by
  obtain ⟨b, off, e, hb, hc⟩ := h i hi
  exact ⟨b, off, e, hb, fun j v hv => hc j v hv⟩
/-- What holds of a model that is the law's own: where it lies, how much lies behind it. -/
structure Mine (w0 w : World) (mp : Nat) (B : MB) (T : Mst) (n : Nat) : Prop where
  md : IsModel w B T
  mp : B.mp = mp
  few : T.Few n
  low : ∀ g, B.lab g ≠ .no → w0.heap.size ≤ g
  below : Below w0.heap.size w0 w
theorem Mine.turn {w0 w w' : World} {mp : Nat} {B B' : MB} {T T' : Mst} {n m : Nat} (h : Mine w0 w mp B T n) (hM : IsModel w' B' T') (hT : Turn w w' B B') (hf : T'.Few m) : Mine w0 w' mp B' T' m :=
  have hl := hT.lower h.low h.below.size
  ⟨hM, hT.mp.trans h.mp, hf, hl.2, h.below.trans hl.1⟩
theorem Mine.keep {w0 w w' : World} {mp : Nat} {B : MB} {T : Mst} {n : Nat} (h : Mine w0 w mp B T n) (hb : Below w.heap.size w w') : Mine w0 w' mp B T n :=
  ⟨h.md.below hb, h.mp, h.few, h.low, h.below.trans (hb.mono h.below.size)⟩
theorem Mine.more {w0 w : World} {mp : Nat} {B : MB} {T : Mst} {n : Nat} (h : Mine w0 w mp B T n) : Mine w0 w mp B T (n + 1) := ⟨h.md, h.mp, h.few.mono (Nat.le_succ n), h.low, h.below⟩
theorem Mine.max {w0 w : World} {mp : Nat} {B : MB} {T : Mst} {n : Nat} (h : Mine w0 w mp B T n) (hn : n ≤ 100000) : T.L.length ≤ 100000000 := by have := h.few.L; omega
theorem Mine.maxE {w0 w : World} {mp : Nat} {B : MB} {T : Mst} {n : Nat} (h : Mine w0 w mp B T n) (hn : n ≤ 100000) (e : Int) (L : List Rw) (hL : T.seals e = some L) : L.length ≤ 100000000 := by have := h.few.sl e L hL; omega
theorem Mine.act {w0 w : World} {mp : Nat} {B : MB} {T : Mst} {n : Nat} (h : Mine w0 w mp B T n) (hn : n ≤ 99999) (x : Opx) (hx : OpOk w x) (hs : x.q.cells.length ≤ 100) :
    Calls Tryz.prog 14 #[.pointer (some ⟨mp, 0, none⟩), opV x] w fun e w' => e = .returned (.tuple #[]) ∧ ∃ B', Mine w0 w' mp B' (T.act x) (n + 1) := by
  have hc := act_any h.md h.few (by omega) x hx hs
  rw [h.mp] at hc
  refine hc.mono ?_
  rintro e w' ⟨rfl, B', hM, hT⟩
  exact ⟨rfl, B', h.turn hM hT (h.few.act h.md.inv x)⟩
theorem Mine.map {w0 w : World} {mp : Nat} {B : MB} {T : Mst} {n : Nat} (h : Mine w0 w mp B T n) (hn : n ≤ 100000) :
    Calls Tryz.prog 15 #[.pointer (some ⟨mp, 0, none⟩)] w fun e w' => ∃ v, e = .returned v ∧ Own 93 7 rowL w.heap.size w' v T.L ∧ Below w.heap.size w w' := by
  have hc := mMap_any h.md (h.max hn)
  rw [h.mp] at hc
  exact hc
theorem Mine.stats {w0 w : World} {mp : Nat} {B : MB} {T : Mst} {n : Nat} (h : Mine w0 w mp B T n) :
    Calls Tryz.prog 16 #[.pointer (some ⟨mp, 0, none⟩)] w fun e w' => e = .returned T.statsV ∧ Below w.heap.size w w' := by
  have hc := stats_any h.md
  rw [h.mp] at hc
  exact hc
/-- What the law itself holds is no block of the model's. -/
theorem Mine.away {w0 w : World} {mp : Nat} {B : MB} {T : Mst} {n : Nat} (h : Mine w0 w mp B T n) {g : Nat} (hg : w.heap.size ≤ g) : B.lab g = .no := by
  refine Decidable.byContradiction fun hn => ?_
  have := h.md.lt g hn
  omega
theorem Turn.away {w w' : World} {B B' : MB} (hT : Turn w w' B B') {g : Nat} (hn : B.lab g = .no) (hlt : g < w.heap.size) : B'.lab g = .no ∧ w'.heap[g]? = w.heap[g]? :=
  ⟨Decidable.byContradiction fun h => by rcases hT.lab g h with h1 | h1; exact h1 hn; omega, hT.chg.block g hlt (fun h => h hn)⟩
theorem Mine.chg {w0 w w' : World} {mp : Nat} {B : MB} {T : Mst} {n : Nat} (h : Mine w0 w mp B T n) {l : List Nat} (hc : Chg l w w') (hl : ∀ g ∈ l, B.lab g = .no ∧ w0.heap.size ≤ g) : Mine w0 w' mp B T n :=
  ⟨h.md.keep hc.size fun g hg => hc.block g (h.md.lt g hg) (fun hm => hg (hl g hm).1), h.mp, h.few, h.low, h.below.trans ⟨hc.os, hc.tape, hc.output, hc.size, fun g hg => hc.block g (Nat.lt_of_lt_of_le hg h.below.size) (fun hm => by have := (hl g hm).2; omega)⟩⟩
theorem set6 {w : World} {g : Nat} {t : TypeId} {fr : Nat × Nat} {x0 x1 x2 x3 x4 x5 : Value} (h : w.heap[g]? = some (.cells #[x0, x1, x2, x3, x4, x5] t fr)) (v0 v1 v2 v3 v4 v5 : Value) :
    ((((((w.setCell ⟨g, 0, none⟩ v0).setCell ⟨g, 1, none⟩ v1).setCell ⟨g, 2, none⟩ v2).setCell ⟨g, 3, none⟩ v3).setCell ⟨g, 4, none⟩ v4).setCell ⟨g, 5, none⟩ v5).heap[g]? = some (.cells #[v0, v1, v2, v3, v4, v5] t fr) := by
  have h0 : (w.setCell ⟨g, 0, none⟩ v0).heap[g]? = some (.cells #[v0, x1, x2, x3, x4, x5] t fr) := set_obj h 0 v0
  have h1 : ((w.setCell ⟨g, 0, none⟩ v0).setCell ⟨g, 1, none⟩ v1).heap[g]? = some (.cells #[v0, v1, x2, x3, x4, x5] t fr) := set_obj h0 1 v1
  have h2 : (((w.setCell ⟨g, 0, none⟩ v0).setCell ⟨g, 1, none⟩ v1).setCell ⟨g, 2, none⟩ v2).heap[g]? = some (.cells #[v0, v1, v2, x3, x4, x5] t fr) := set_obj h1 2 v2
  have h3 : ((((w.setCell ⟨g, 0, none⟩ v0).setCell ⟨g, 1, none⟩ v1).setCell ⟨g, 2, none⟩ v2).setCell ⟨g, 3, none⟩ v3).heap[g]? = some (.cells #[v0, v1, v2, v3, x4, x5] t fr) := set_obj h2 3 v3
  have h4 : (((((w.setCell ⟨g, 0, none⟩ v0).setCell ⟨g, 1, none⟩ v1).setCell ⟨g, 2, none⟩ v2).setCell ⟨g, 3, none⟩ v3).setCell ⟨g, 4, none⟩ v4).heap[g]? = some (.cells #[v0, v1, v2, v3, v4, x5] t fr) := set_obj h3 4 v4
  have h5 : ((((((w.setCell ⟨g, 0, none⟩ v0).setCell ⟨g, 1, none⟩ v1).setCell ⟨g, 2, none⟩ v2).setCell ⟨g, 3, none⟩ v3).setCell ⟨g, 4, none⟩ v4).setCell ⟨g, 5, none⟩ v5).heap[g]? = some (.cells #[v0, v1, v2, v3, v4, v5] t fr) := set_obj h4 5 v5
  exact h5
theorem chg6 (w : World) (g : Nat) (v0 v1 v2 v3 v4 v5 : Value) : Chg [g] w ((((((w.setCell ⟨g, 0, none⟩ v0).setCell ⟨g, 1, none⟩ v1).setCell ⟨g, 2, none⟩ v2).setCell ⟨g, 3, none⟩ v3).setCell ⟨g, 4, none⟩ v4).setCell ⟨g, 5, none⟩ v5) :=
  (((((Chg.set w (a := ⟨g, 0, none⟩) (by simp) v0).trans (Chg.set _ (a := ⟨g, 1, none⟩) (by simp) v1)).trans (Chg.set _ (a := ⟨g, 2, none⟩) (by simp) v2)).trans (Chg.set _ (a := ⟨g, 3, none⟩) (by simp) v3)).trans (Chg.set _ (a := ⟨g, 4, none⟩) (by simp) v4)).trans (Chg.set _ (a := ⟨g, 5, none⟩) (by simp) v5)
/-- A struct is read off its block. -/
theorem load_blk {P : Program} (ty : TypeId) (d : TypeDesc) {w : World} {g : Nat} {cs : Array Value} {t : TypeId} {fr : Nat × Nat} (h : w.heap[g]? = some (.cells cs t fr)) (hu : P.underlying ty = some d) (hd : (match d with | .struct _ | .array _ _ => true | _ => false) = true) (hi : (P.info? ty).map (·.size) = some cs.size) :
    (Instr.loadAt ty (.pointer (some ⟨g, 0, none⟩))).run P w = .ok (.agg cs) w := by
  simp only [Instr.loadAt, Instr.sureAddr, Sem.run_bind, Sem.run_pure, Result.andThen_ok, run_loadVar_row w g t ty cs fr d h hu hd hi]
/-- Three blocks that stay. -/
structure RefS (W0 : World) (gq gr gs : Nat) (Q R S : Obj) (W : World) : Prop where
  b : Below W0.heap.size W0 W
  q : W.heap[gq]? = some Q
  r : W.heap[gr]? = some R
  s : W.heap[gs]? = some S
theorem RefS.of {W0 : World} {gq gr gs : Nat} {Q R S : Obj} (hq : W0.heap[gq]? = some Q) (hr : W0.heap[gr]? = some R) (hs : W0.heap[gs]? = some S) (W : World) (h : Below W0.heap.size W0 W) : RefS W0 gq gr gs Q R S W :=
  ⟨h, (h.block _ (lt_of_block hq)).trans hq, (h.block _ (lt_of_block hr)).trans hr, (h.block _ (lt_of_block hs)).trans hs⟩
theorem load_rq {w : World} {g : Nat} {x0 x1 x2 x3 x4 x5 x6 x7 x8 x9 x10 : Value} (h : w.heap[g]? = some (.cells #[x0, x1, x2, x3, x4, x5, x6, x7, x8, x9, x10] 30 (0, 0))) : (Instr.loadAt 30 (.pointer (some ⟨g, 0, none⟩))).run Tryz.prog w = .ok (.agg #[x0, x1, x2, x3, x4, x5, x6, x7, x8, x9, x10]) w :=
  load_blk _ _ h Tryz.underlying30 rfl (by kernel_rfl)
theorem load_st {w : World} {g : Nat} {a b c d e f : Int} (h : w.heap[g]? = some (.cells #[.int .i64 a, .int .i64 b, .int .i64 c, .int .i64 d, .int .i64 e, .int .i64 f] 46 (0, 0))) : (Instr.loadAt 46 (.pointer (some ⟨g, 0, none⟩))).run Tryz.prog w = .ok (statV a b c d e f) w :=
  load_blk _ _ h Tryz.underlying46 rfl (by kernel_rfl)
theorem load_it {w : World} {g : Nat} {mk : Bool} {k : ByteArray} {t v : Int} (h : w.heap[g]? = some (.cells #[.bool mk, .string k, .int .i64 t, .int .i64 v] 32 (0, 0))) : (Instr.loadAt 32 (.pointer (some ⟨g, 0, none⟩))).run Tryz.prog w = .ok (itemV mk k t v) w :=
  load_blk _ _ h Tryz.underlying32 rfl (by kernel_rfl)
/-- Ask of the law's own model: the response, the rows new, the model behind it. -/
theorem Mine.ask {w0 w : World} {mp : Nat} {B : MB} {T : Mst} {n : Nat} (h : Mine w0 w mp B T n) (hn : n ≤ 99999) (s : Int) (q : Rq) (qa : Option Addr) (qc : Nat) (r : Int) (hq : Sl 3 cellL w qa q.cells) (hl : q.cells.length ≤ 100000000) :
    Calls Tryz.prog 18 #[.pointer (some ⟨mp, 0, none⟩), .int .i64 s, .agg (q.at qa qc), .int .i64 r] w fun e w' => ∃ v B', e = .returned (.tuple #[.agg ((T.ask s q r).2.2.at v), .int .i64 (T.ask s q r).2.1]) ∧ Own 93 7 rowL w.heap.size w' v (T.ask s q r).2.2.rows ∧ Mine w0 w' mp B' (T.ask s q r).1 (n + 1) ∧ Turn w w' B B' ∧ ∀ g, v.ownBlock = some g → B'.lab g = .no := by
  have hc := ask_any h.md s q qa qc r hq hl (h.max (by omega)) (h.maxE (by omega) _)
  rw [h.mp] at hc
  refine hc.mono ?_
  rintro e w' ⟨v, B', rfl, ho, hM, hT, hv⟩
  exact ⟨v, B', rfl, ho, h.turn hM hT (h.few.ask s q r), hT, hv⟩
theorem Mine.event {w0 w : World} {mp : Nat} {B : MB} {T : Mst} {n : Nat} (h : Mine w0 w mp B T n) (hn : n ≤ 99999) (mk full : Bool) (k : ByteArray) (t v : Int) (hk : k.size ≤ maxLen) (hv : is64 v) :
    Calls Tryz.prog 21 #[.pointer (some ⟨mp, 0, none⟩), itemV mk k t v, .bool full] w fun e w' => e = .returned (.tuple #[.int .i64 (T.event mk k t v full).2.1, .int .i64 (T.event mk k t v full).2.2]) ∧ Mine w0 w' mp B (T.event mk k t v full).1 (n + 1) ∧ Turn w w' B B := by
  have hc := event_any h.md mk full k t v hk hv (h.max (by omega)) ⟨by have := h.few.ct; omega, by have := h.few.cl; omega, by have := h.few.co; omega, by have := h.few.cf; omega⟩
  rw [h.mp] at hc
  refine hc.mono ?_
  rintro e w' ⟨rfl, hM, hT⟩
  exact ⟨rfl, h.turn hM hT (h.few.event h.md.inv mk k t v full), hT⟩
theorem Mine.new {w0 w : World} {c : Cfg} {a : Option Addr} {cap : Nat} (hb : Below w0.heap.size w0 w) (hs : Sl 3 viewL w a c.vs) (hr : c.right = true) :
    Calls Tryz.prog 12 #[cfgV c a cap] w fun e w' => ∃ B, e = .returned (.tuple #[.pointer (some ⟨B.mp, 0, none⟩), .int .i64 0]) ∧ Mine w0 w' B.mp B (Mst.new c) 0 ∧ Below w.heap.size w w' := by
  refine (mnew_ok c a cap w hs (by have := (Cfg.right_ok hr).vhi; omega) hr).mono ?_
  rintro e w' ⟨B, rfl, hM, hb1, hl⟩
  exact ⟨B, rfl, ⟨hM, rfl, Mst.Few.new c, fun g hg => Nat.le_trans hb.size (hl g hg), hb.trans (hb1.mono hb.size)⟩, hb1⟩
end Go.Proofs.YtaicecnfodhlcaaGreat
