/- The machine's small functions: Operator, seal, Stats. -/
import Derived.Test.YtaicecnfodhlcaaMState
import Derived.RegionTactic
import Derived.BigRegion
set_option linter.unusedVariables false
set_option linter.unusedSimpArgs false
namespace Go.Proofs.Ytaicecnfodhlcaa
open Go.RowKit Go.Deep

theorem mOperator_any {w : World} {B : MB} {S : Mst} (h : IsModel w B S) (k : ByteArray) (hk : k.size ≤ maxLen) : Calls Try.prog 20 #[.pointer (some ⟨B.mp, 0, none⟩), .string k] w fun e w' => e = .returned (.int .i64 (oprK k S.cfg.op)) ∧ Below w.heap.size w w' :=
  operator_any B.mp k S.cfg.op w hk h.obj.cells.2.2.1 h.inv.cfg.op.1 h.inv.cfg.op.2

/-- The epoch is sealed. -/
def Mst.sealed (S : Mst) : Mst := { S with now := S.now + 1 }
theorem Mst.Inv.sealed {S : Mst} (h : S.Inv) (hn : S.now < 1099511627776) : S.sealed.Inv :=
  ⟨h.cfg, h.msl, h.mrow, h.tdl, h.rise, h.may, ⟨by have := h.now; show 1 ≤ S.now + 1; omega, by show S.now + 1 ≤ _; omega⟩, fun s e he => by have := h.old s e he; exact ⟨this.1, this.2.1, this.2.2.1, by show e < S.now + 1; omega⟩, h.slk, h.sok, h.cnt, h.tms, h.tok⟩

theorem set_obj {w : World} {g : Nat} {cs : Array Value} {t : TypeId} {fr : Nat × Nat} (h : w.heap[g]? = some (.cells cs t fr)) (k : Nat) (v : Value) : (w.setCell ⟨g, k, none⟩ v).heap[g]? = some (.cells (cs.setIfInBounds k v) t fr) := by
  unfold World.setCell
  simp [Array.getElem?_modify, h]

set_option maxHeartbeats 1000000 in
theorem seal_full {w : World} {B : MB} {S : Mst} (h : IsModel w B S) (hn : S.now = 1099511627776) : Calls Try.prog 65 #[.pointer (some ⟨B.mp, 0, none⟩)] w fun e w' => e = .returned (.tuple #[.int .i64 0, .int .i64 2]) ∧ w = w' := by
  obtain ⟨_, _, _, _, _, _, _, c15, _⟩ := h.obj.cells
  rw [hn] at c15
  clear h
  go_enter Try.func65, Try.ntmps65
  go_wp2_with fail
  go_ret2
  exact ⟨rfl, rfl⟩
set_option maxHeartbeats 1000000 in
theorem seal_ok {w : World} {B : MB} {S : Mst} (h : IsModel w B S) (hn : S.now < 1099511627776) : Calls Try.prog 65 #[.pointer (some ⟨B.mp, 0, none⟩)] w fun e w' => e = .returned (.tuple #[.int .i64 S.now, .int .i64 0]) ∧ IsModel w' B S.sealed ∧ Chg [B.mp] w w' := by
  obtain ⟨_, _, _, _, _, _, _, c15, _⟩ := h.obj.cells
  have hobj := h.obj.obj
  have fr := frozen_blk hobj 15
  have h1 := h.inv.now.1
  have hne : (S.now == 1099511627776) = false := by simp; omega
  have hfin : IsModel (w.setCell ⟨B.mp, 15, none⟩ (.int .i64 (S.now + 1))) B S.sealed := by
    refine h.struct ⟨?_, h.obj.lb⟩ (by simp [World.setCell]) (fun g hg hne => Below.heap_setCell _ _ _ _ hne) rfl rfl rfl rfl rfl rfl (h.inv.sealed hn)
    rw [set_obj hobj]; rfl
  have Hfin := Lib.hid hfin
  clear hfin hobj h
  generalize S.now = n at *
  go_enter Try.func65, Try.ntmps65
  go_wp2_with fail
  go_ret2
  exact ⟨rfl, Hfin.out, Chg.set _ (by simp) _⟩

theorem HasMap.len {w : World} {b : Nat} {L : List Rw} (h : HasMap w b L) (ty : TypeId) : (Builtin.len_ #[83] ty #[.map (some b)]).run Try.prog w = .ok (.int .i64 L.length) w := by
  obtain ⟨m, h1, h2⟩ := h
  have h3 := h1.len (P := Try.prog) Try.underlying83 ty
  rw [h3, h2.length_eq, List.length_map]

abbrev statV (t l o f c n : Int) : Value := .agg #[.int .i64 t, .int .i64 l, .int .i64 o, .int .i64 f, .int .i64 c, .int .i64 n]
theorem bodyPost_stat {fn : Func} {p : Tmp} (h : fn.results = #[.cell p 39]) {a : Act} {w : World} {R : Ending → World → Prop} {g : Nat} {x1 x2 x3 x4 x5 x6 : Int} (hp : a.tmps.getD p undef = .pointer (some ⟨g, 0, none⟩))
    (hb : w.heap[g]? = some (.cells #[.int .i64 x1, .int .i64 x2, .int .i64 x3, .int .i64 x4, .int .i64 x5, .int .i64 x6] 39 (0, 0))) (hd : a.defers = []) (hR : R (.returned (statV x1 x2 x3 x4 x5 x6)) w) : bodyPost Try.prog fn R .ret a w :=
  bodyPost_ret (results_cell_row h a.tmps w g 39 _ (0, 0) _ hp hb Try.underlying39 rfl (by kernel_rfl)) hd hR
theorem drew_blk {w : World} {g : Nat} {o : Obj} (h : w.heap[g]? = some o) : w.drew.heap[g]? = some o := h
theorem blk_set {w : World} {g k : Nat} {o : Obj} {j : Nat} {v : Value} (h : w.heap[g]? = some o) (hn : g ≠ k) : (w.setCell ⟨k, j, none⟩ v).heap[g]? = some o := by rw [Below.heap_setCell _ _ _ _ hn]; exact h
/-- The counts as they are told. -/
def Mst.statsV (S : Mst) : Value := statV S.cnt.t S.cnt.l S.cnt.o S.cnt.f S.L.length S.now

set_option maxHeartbeats 4000000 in
theorem stats_any {w : World} {B : MB} {S : Mst} (h : IsModel w B S) : Calls Try.prog 13 #[.pointer (some ⟨B.mp, 0, none⟩)] w fun e w' => e = .returned S.statsV ∧ Below w.heap.size w w' := by
  obtain ⟨_, _, _, _, c12, _, _, c15, _, _, c18, c19, c20, c21, c22, c23⟩ := h.obj.cells
  have hb : Below w.heap.size w ((w.alloc (.cells #[.int .i64 0, .int .i64 0, .int .i64 0, .int .i64 0, .int .i64 0, .int .i64 0] 39)).alloc (.cells #[.int .i64 S.cnt.t, .int .i64 S.cnt.l, .int .i64 S.cnt.o, .int .i64 S.cnt.f, .int .i64 0, .int .i64 0] 39)) := ((Below.refl _ _).alloc (Nat.le_refl _) _).alloc (by simp) _
  have h2 := h.below hb
  have hlen := h2.there.map.keep (w' := ((w.alloc (.cells #[.int .i64 0, .int .i64 0, .int .i64 0, .int .i64 0, .int .i64 0, .int .i64 0] 39)).alloc (.cells #[.int .i64 S.cnt.t, .int .i64 S.cnt.l, .int .i64 S.cnt.o, .int .i64 S.cnt.f, .int .i64 0, .int .i64 0] 39)).drew) rfl
  have hl3 := fun ty => hlen.len ty
  obtain ⟨_, _, _, _, d12, _, _, d15, _⟩ := h2.obj.cells
  have hr2 : ((w.alloc (.cells #[.int .i64 0, .int .i64 0, .int .i64 0, .int .i64 0, .int .i64 0, .int .i64 0] 39)).alloc (.cells #[.int .i64 S.cnt.t, .int .i64 S.cnt.l, .int .i64 S.cnt.o, .int .i64 S.cnt.f, .int .i64 0, .int .i64 0] 39)).heap[w.heap.size]? = some (.cells #[.int .i64 0, .int .i64 0, .int .i64 0, .int .i64 0, .int .i64 0, .int .i64 0] 39 (0, 0)) := (blk_old (by simp)).trans (blk_at rfl)
  have hr3 : ((w.alloc (.cells #[.int .i64 0, .int .i64 0, .int .i64 0, .int .i64 0, .int .i64 0, .int .i64 0] 39)).alloc (.cells #[.int .i64 S.cnt.t, .int .i64 S.cnt.l, .int .i64 S.cnt.o, .int .i64 S.cnt.f, .int .i64 0, .int .i64 0] 39)).heap[w.heap.size + 1]? = some (.cells #[.int .i64 S.cnt.t, .int .i64 S.cnt.l, .int .i64 S.cnt.o, .int .i64 S.cnt.f, .int .i64 0, .int .i64 0] 39 (0, 0)) := blk_at (by simp)
  have hmp : B.mp < w.heap.size := h.lt _ (by rw [h.obj.lb]; simp)
  have Hb := Lib.hid hb
  clear h h2 hlen hb
  unfold Mst.statsV
  generalize S.cnt.t = xt at *
  generalize S.cnt.l = xl at *
  generalize S.cnt.o = xo at *
  generalize S.cnt.f = xf at *
  generalize S.now = xn at *
  generalize S.L.length = xc at *
  go_enter Try.func13, Try.ntmps13
  go_wp2_with fail
  generalize (w.alloc (.cells #[.int .i64 0, .int .i64 0, .int .i64 0, .int .i64 0, .int .i64 0, .int .i64 0] 39)).alloc (.cells #[.int .i64 xt, .int .i64 xl, .int .i64 xo, .int .i64 xf, .int .i64 0, .int .i64 0] 39) = W at *
  have r0 := cell_blk hr2 0
  have r1 := cell_blk hr2 1
  have r2 := cell_blk hr2 2
  have r3 := cell_blk hr2 3
  have r4 := cell_blk hr2 4
  have r5 := cell_blk hr2 5
  have s0 := cell_blk hr3 0
  have s1 := cell_blk hr3 1
  have s2 := cell_blk hr3 2
  have s3 := cell_blk hr3 3
  have s4 := cell_blk hr3 4
  have s5 := cell_blk hr3 5
  simp at r0 r1 r2 r3 r4 r5 s0 s1 s2 s3 s4 s5
  have f2 := frozen_blk hr2
  have f3 := frozen_blk hr3
  clear c12 c15 c18 c19 c20 c21 c22 c23
  have Hr2 := Lib.hid hr2
  have hmp2 : ¬ B.mp = w.heap.size := by omega
  have hmp3 : ¬ B.mp = w.heap.size + 1 := by omega
  clear hr2 hr3
  go_region
  go_wp2_with fail
  refine bodyPost_stat (x1 := xt) (x2 := xl) (x3 := xo) (x4 := xf) (x5 := xc) (x6 := xn) rfl rfl ?_ rfl ⟨rfl, ?_⟩
  · have h2 := Hr2.out
    have hx := drew_blk (set_obj (set_obj (set_obj (set_obj (set_obj (set_obj (blk_set (k := w.heap.size + 1) (j := 5) (v := .int .i64 xn) (blk_set (k := w.heap.size + 1) (j := 4) (v := .int .i64 xc) h2 (Nat.ne_of_lt (Nat.lt_succ_self _))) (Nat.ne_of_lt (Nat.lt_succ_self _))) 0 (.int .i64 xt)) 1 (.int .i64 xl)) 2 (.int .i64 xo)) 3 (.int .i64 xf)) 4 (.int .i64 xc)) 5 (.int .i64 xn))
    exact hx
  · have h0 : w.heap.size ≤ w.heap.size := Nat.le_refl _
    have h1 : w.heap.size ≤ w.heap.size + 1 := Nat.le_succ _
    exact ((((((((Hb.out.setCell (p := ⟨w.heap.size + 1, 4, none⟩) h1 _).setCell (p := ⟨w.heap.size + 1, 5, none⟩) h1 _).setCell (p := ⟨w.heap.size, 0, none⟩) h0 _).setCell (p := ⟨w.heap.size, 1, none⟩) h0 _).setCell (p := ⟨w.heap.size, 2, none⟩) h0 _).setCell (p := ⟨w.heap.size, 3, none⟩) h0 _).setCell (p := ⟨w.heap.size, 4, none⟩) h0 _).setCell (p := ⟨w.heap.size, 5, none⟩) h0 _).drew
end Go.Proofs.Ytaicecnfodhlcaa
