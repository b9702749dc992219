/- asks: what a request asks. -/
import Derived.Test.YtaicecnfodhlcaaJ11
set_option linter.unusedVariables false
set_option linter.unusedSimpArgs false
namespace Go.Proofs.Ytaicecnfodhlcaa
open Go.RowKit Go.Deep

theorem results_tmp_cell {P : Program} {fn : Func} {p q : Tmp} {ty : TypeId} (h : fn.results = #[.tmp q, .cell p ty]) (tmps : Array Value) (w : World) (g : Nat) (t : TypeId) (cs : Array Value) (fr : Nat × Nat) (d : TypeDesc)
    (hp : tmps.getD p undef = .pointer (some ⟨g, 0, none⟩)) (hg : w.heap[g]? = some (.cells cs t fr))
    (hu : P.underlying ty = some d) (hd : (match d with | .struct _ | .array _ _ => true | _ => false) = true) (hi : (P.info? ty).map (·.size) = some cs.size) :
    (results fn tmps).run P w = .ok (.tuple #[tmps.getD q undef, .agg cs]) w := by
  have hp' : tmps[p]?.getD undef = .pointer (some ⟨g, 0, none⟩) := by simpa using hp
  simp [results, h, hp', asAddr, run_loadVar_row w g t ty cs fr d hg hu hd hi]
theorem bodyPost_own {fn : Func} {p q : Tmp} (h : fn.results = #[.tmp q, .cell p 48]) {a : Act} {w : World} {R : Ending → World → Prop} {g : Nat} (r : Rq) (pa : Option Addr) (cap : Nat) (hp : a.tmps.getD p undef = .pointer (some ⟨g, 0, none⟩))
    (hb : w.heap[g]? = some (.cells (r.at pa cap) 48 (0, 0))) (hd : a.defers = []) (hR : R (.returned (.tuple #[a.tmps.getD q undef, .agg (r.at pa cap)])) w) : bodyPost Try.prog fn R .ret a w :=
  bodyPost_ret (results_tmp_cell h a.tmps w g 48 _ (0, 0) _ hp hb Try.underlying48 rfl (by kernel_rfl)) hd hR
set_option maxRecDepth 100000 in
set_option maxHeartbeats 4000000 in
theorem asks_1 (i ep : Int) (cells : List Cell) (f t : Cell) (lim : Int) (pa : Option Addr) (ca : Nat) (w : World) :
    Calls Try.prog 60 #[.agg (Rq.at ⟨1, i, ep, cells, f, t, lim⟩ pa ca)] w fun e w' => e = .returned (.tuple #[.iface 133 (.agg #[.int .i64 ep, .slice pa cells.length ca]), .agg (Rq.at ⟨1, i, ep, cells, ⟨0, ByteArray.empty, 0⟩, ⟨0, ByteArray.empty, 0⟩, 0⟩ pa ca)]) ∧ Below w.heap.size w w' := by
  go_enter Try.func60, Try.ntmps60
  go_wp2_with fail
  go_region
  go_wp2_with fail
  go_region
  go_wp2_with fail
  refine bodyPost_own (g := w.heap.size + 1) rfl ⟨1, i, ep, cells, ⟨0, ByteArray.empty, 0⟩, ⟨0, ByteArray.empty, 0⟩, 0⟩ pa ca rfl ?_ rfl ⟨rfl, ?_⟩
  · iterate 9 (try with_reducible refine drew_blk ?_)
    rw [blk_old (by simp)]
    exact blk_at (by simp)
  · iterate 9 (try with_reducible refine Below.drew ?_)
    exact (((Below.refl _ _).alloc (Nat.le_refl _) _).alloc (by simp) _).alloc (by simp; omega) _
set_option maxRecDepth 100000 in
set_option maxHeartbeats 4000000 in
theorem asks_2 (i ep : Int) (cells : List Cell) (f t : Cell) (lim : Int) (pa : Option Addr) (ca : Nat) (w : World) :
    Calls Try.prog 60 #[.agg (Rq.at ⟨2, i, ep, cells, f, t, lim⟩ pa ca)] w fun e w' => e = .returned (.tuple #[.iface 133 (.agg #[.int .i64 ep, .slice pa cells.length ca]), .agg (Rq.at ⟨2, i, ep, cells, ⟨0, ByteArray.empty, 0⟩, ⟨0, ByteArray.empty, 0⟩, 0⟩ pa ca)]) ∧ Below w.heap.size w w' := by
  go_enter Try.func60, Try.ntmps60
  go_wp2_with fail
  go_region
  go_wp2_with fail
  go_region
  go_wp2_with fail
  refine bodyPost_own (g := w.heap.size + 1) rfl ⟨2, i, ep, cells, ⟨0, ByteArray.empty, 0⟩, ⟨0, ByteArray.empty, 0⟩, 0⟩ pa ca rfl ?_ rfl ⟨rfl, ?_⟩
  · iterate 9 (try with_reducible refine drew_blk ?_)
    rw [blk_old (by simp)]
    exact blk_at (by simp)
  · iterate 9 (try with_reducible refine Below.drew ?_)
    exact (((Below.refl _ _).alloc (Nat.le_refl _) _).alloc (by simp) _).alloc (by simp; omega) _
set_option maxRecDepth 100000 in
set_option maxHeartbeats 4000000 in
theorem asks_3 (i ep : Int) (cells : List Cell) (f t : Cell) (lim : Int) (pa : Option Addr) (ca : Nat) (w : World) :
    Calls Try.prog 60 #[.agg (Rq.at ⟨3, i, ep, cells, f, t, lim⟩ pa ca)] w fun e w' => e = .returned (.tuple #[.iface 135 (.agg #[.int .i64 ep, .int .i64 f.v, .string f.k, .int .i64 f.s, .int .i64 t.v, .string t.k, .int .i64 t.s, .int .i64 lim]), .agg (Rq.at ⟨3, i, ep, [], f, t, lim⟩ none 0)]) ∧ Below w.heap.size w w' := by
  go_enter Try.func60, Try.ntmps60
  go_wp2_with fail
  go_region
  go_wp2_with fail
  go_region
  go_wp2_with fail
  refine bodyPost_own (g := w.heap.size + 1) rfl ⟨3, i, ep, [], f, t, lim⟩ none 0 rfl ?_ rfl ⟨rfl, ?_⟩
  · iterate 9 (try with_reducible refine drew_blk ?_)
    rw [blk_old (by simp)]
    exact blk_at (by simp)
  · iterate 9 (try with_reducible refine Below.drew ?_)
    exact (((Below.refl _ _).alloc (Nat.le_refl _) _).alloc (by simp) _).alloc (by simp; omega) _
set_option maxRecDepth 100000 in
set_option maxHeartbeats 4000000 in
theorem asks_4 (i ep : Int) (cells : List Cell) (f t : Cell) (lim : Int) (pa : Option Addr) (ca : Nat) (w : World) :
    Calls Try.prog 60 #[.agg (Rq.at ⟨4, i, ep, cells, f, t, lim⟩ pa ca)] w fun e w' => e = .returned (.tuple #[.iface 153 (.agg #[]), .agg (Rq.at ⟨4, i, 0, [], ⟨0, ByteArray.empty, 0⟩, ⟨0, ByteArray.empty, 0⟩, 0⟩ none 0)]) ∧ Below w.heap.size w w' := by
  go_enter Try.func60, Try.ntmps60
  go_wp2_with fail
  go_region
  go_wp2_with fail
  refine bodyPost_own (g := w.heap.size + 1) rfl ⟨4, i, 0, [], ⟨0, ByteArray.empty, 0⟩, ⟨0, ByteArray.empty, 0⟩, 0⟩ none 0 rfl ?_ rfl ⟨rfl, ?_⟩
  · iterate 9 (try with_reducible refine drew_blk ?_)
    rw [blk_old (by simp)]
    exact blk_at (by simp)
  · iterate 9 (try with_reducible refine Below.drew ?_)
    exact (((Below.refl _ _).alloc (Nat.le_refl _) _).alloc (by simp) _).alloc (by simp; omega) _
set_option maxRecDepth 100000 in
set_option maxHeartbeats 4000000 in
theorem asks_5 (i ep : Int) (cells : List Cell) (f t : Cell) (lim : Int) (pa : Option Addr) (ca : Nat) (w : World) :
    Calls Try.prog 60 #[.agg (Rq.at ⟨5, i, ep, cells, f, t, lim⟩ pa ca)] w fun e w' => e = .returned (.tuple #[.iface 137 (.agg #[.int .i64 ep]), .agg (Rq.at ⟨5, i, ep, [], ⟨0, ByteArray.empty, 0⟩, ⟨0, ByteArray.empty, 0⟩, 0⟩ none 0)]) ∧ Below w.heap.size w w' := by
  go_enter Try.func60, Try.ntmps60
  go_wp2_with fail
  go_region
  go_wp2_with fail
  refine bodyPost_own (g := w.heap.size + 1) rfl ⟨5, i, ep, [], ⟨0, ByteArray.empty, 0⟩, ⟨0, ByteArray.empty, 0⟩, 0⟩ none 0 rfl ?_ rfl ⟨rfl, ?_⟩
  · iterate 9 (try with_reducible refine drew_blk ?_)
    rw [blk_old (by simp)]
    exact blk_at (by simp)
  · iterate 9 (try with_reducible refine Below.drew ?_)
    exact (((Below.refl _ _).alloc (Nat.le_refl _) _).alloc (by simp) _).alloc (by simp; omega) _
set_option maxRecDepth 100000 in
set_option maxHeartbeats 4000000 in
theorem asks_6 (i ep : Int) (cells : List Cell) (f t : Cell) (lim : Int) (pa : Option Addr) (ca : Nat) (w : World) :
    Calls Try.prog 60 #[.agg (Rq.at ⟨6, i, ep, cells, f, t, lim⟩ pa ca)] w fun e w' => e = .returned (.tuple #[.iface 137 (.agg #[.int .i64 ep]), .agg (Rq.at ⟨6, i, ep, [], ⟨0, ByteArray.empty, 0⟩, ⟨0, ByteArray.empty, 0⟩, 0⟩ none 0)]) ∧ Below w.heap.size w w' := by
  go_enter Try.func60, Try.ntmps60
  go_wp2_with fail
  go_region
  go_wp2_with fail
  refine bodyPost_own (g := w.heap.size + 1) rfl ⟨6, i, ep, [], ⟨0, ByteArray.empty, 0⟩, ⟨0, ByteArray.empty, 0⟩, 0⟩ none 0 rfl ?_ rfl ⟨rfl, ?_⟩
  · iterate 9 (try with_reducible refine drew_blk ?_)
    rw [blk_old (by simp)]
    exact blk_at (by simp)
  · iterate 9 (try with_reducible refine Below.drew ?_)
    exact (((Below.refl _ _).alloc (Nat.le_refl _) _).alloc (by simp) _).alloc (by simp; omega) _
set_option maxRecDepth 100000 in
set_option maxHeartbeats 4000000 in
theorem asks_7 (i ep : Int) (cells : List Cell) (f t : Cell) (lim : Int) (pa : Option Addr) (ca : Nat) (w : World) :
    Calls Try.prog 60 #[.agg (Rq.at ⟨7, i, ep, cells, f, t, lim⟩ pa ca)] w fun e w' => e = .returned (.tuple #[.iface 153 (.agg #[]), .agg (Rq.at ⟨7, i, 0, [], ⟨0, ByteArray.empty, 0⟩, ⟨0, ByteArray.empty, 0⟩, 0⟩ none 0)]) ∧ Below w.heap.size w w' := by
  go_enter Try.func60, Try.ntmps60
  go_wp2_with fail
  go_region
  go_wp2_with fail
  refine bodyPost_own (g := w.heap.size + 1) rfl ⟨7, i, 0, [], ⟨0, ByteArray.empty, 0⟩, ⟨0, ByteArray.empty, 0⟩, 0⟩ none 0 rfl ?_ rfl ⟨rfl, ?_⟩
  · iterate 9 (try with_reducible refine drew_blk ?_)
    rw [blk_old (by simp)]
    exact blk_at (by simp)
  · iterate 9 (try with_reducible refine Below.drew ?_)
    exact (((Below.refl _ _).alloc (Nat.le_refl _) _).alloc (by simp) _).alloc (by simp; omega) _
set_option maxRecDepth 100000 in
set_option maxHeartbeats 4000000 in
theorem asks_0 (k i ep : Int) (cells : List Cell) (f t : Cell) (lim : Int) (pa : Option Addr) (ca : Nat) (w : World) (hk : k ≠ 1 ∧ k ≠ 2 ∧ k ≠ 3 ∧ k ≠ 4 ∧ k ≠ 5 ∧ k ≠ 6 ∧ k ≠ 7) :
    Calls Try.prog 60 #[.agg (Rq.at ⟨k, i, ep, cells, f, t, lim⟩ pa ca)] w fun e w' => e = .returned (.tuple #[.nilIface, .agg (Rq.at ⟨k, i, 0, [], ⟨0, ByteArray.empty, 0⟩, ⟨0, ByteArray.empty, 0⟩, 0⟩ none 0)]) ∧ Below w.heap.size w w' := by
  obtain ⟨h1, h2, h3, h4, h5, h6, h7⟩ := hk
  have k1 : (k == 1) = false := by simpa using h1
  have k2 : (k == 2) = false := by simpa using h2
  have k3 : (k == 3) = false := by simpa using h3
  have k4 : (k == 4) = false := by simpa using h4
  have k5 : (k == 5) = false := by simpa using h5
  have k6 : (k == 6) = false := by simpa using h6
  have k7 : (k == 7) = false := by simpa using h7
  clear h1 h2 h3 h4 h5 h6 h7
  go_enter Try.func60, Try.ntmps60
  go_wp2_with fail
  go_region
  go_wp2_with fail
  refine bodyPost_own (g := w.heap.size + 1) rfl ⟨k, i, 0, [], ⟨0, ByteArray.empty, 0⟩, ⟨0, ByteArray.empty, 0⟩, 0⟩ none 0 rfl ?_ rfl ⟨rfl, ?_⟩
  · iterate 9 (try with_reducible refine drew_blk ?_)
    rw [blk_old (by simp)]
    exact blk_at (by simp)
  · iterate 9 (try with_reducible refine Below.drew ?_)
    exact (((Below.refl _ _).alloc (Nat.le_refl _) _).alloc (by simp) _).alloc (by simp; omega) _
end Go.Proofs.Ytaicecnfodhlcaa
