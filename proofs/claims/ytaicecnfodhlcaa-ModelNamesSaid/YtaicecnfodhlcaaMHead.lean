/- The chapter's first example: the walk. -/
import Derived.Test.YtaicecnfodhlcaaMHeadP
set_option linter.unusedVariables false
set_option linter.unusedSimpArgs false
namespace Go.Proofs.Ytaicecnfodhlcaa
open Go.RowKit Go.Deep

theorem bodyPost_cfg {fn : Func} {p : Tmp} (h : fn.results = #[.cell p 26]) {a : Act} {w : World} {R : Ending → World → Prop} {g : Nat} (c : Cfg) (va : Option Addr) (cap : Nat) (hp : a.tmps.getD p undef = .pointer (some ⟨g, 0, none⟩))
    (hb : w.heap[g]? = some (cfgO c va cap)) (hd : a.defers = []) (hR : R (.returned (cfgV c va cap)) w) : bodyPost Try.prog fn R .ret a w :=
  bodyPost_ret (results_cell_row h a.tmps w g 26 _ (0, 0) _ hp hb Try.underlying26 rfl (by kernel_rfl)) hd hR
set_option maxRecDepth 100000 in
set_option maxHeartbeats 2000000 in
theorem simple_any (w : World) : Calls Try.prog 8 #[] w fun e w' => ∃ b, e = .returned (cfgV c0 (some ⟨b, 0, none⟩) 1) ∧ Sl 3 viewL w' (some ⟨b, 0, none⟩) c0.vs ∧ Below w.heap.size w w' := by
  go_enter Try.func8, Try.ntmps8
  go_wp2_with fail
  refine bodyPost_cfg (g := w.heap.size) rfl c0 (some ⟨w.heap.size + 1, 0, none⟩) 1 rfl ?_ rfl ⟨w.heap.size + 1, rfl, ?_, ?_⟩
  · rw [blk_old (by simp)]
    exact blk_at rfl
  · have h := sl_new (sz := 3) (enc := viewL) (⟨10, 10, 0⟩ : View) (w.alloc (cfgO c0 (some ⟨w.heap.size + 1, 0, none⟩) 1)) 76 (cs := #[.int .i64 10, .int .i64 10, .int .i64 0]) rfl
    simp at h
    exact h
  · exact ((Below.refl _ _).alloc (Nat.le_refl _) _).alloc (by simp) _
theorem Turn.lower {w1 w2 : World} {B B' : MB} {n : Nat} (hT : Turn w1 w2 B B') (hl : ∀ g, B.lab g ≠ .no → n ≤ g) (hn : n ≤ w1.heap.size) : Below n w1 w2 ∧ ∀ g, B'.lab g ≠ .no → n ≤ g :=
  ⟨⟨hT.chg.os, hT.chg.tape, hT.chg.output, hT.chg.size, fun g hg => hT.chg.block g (by omega) (fun h => by have := hl g h; omega)⟩, fun g hg => by
    rcases hT.lab g hg with h | h
    · exact hl g h
    · omega⟩
/-- The pure machine behind the example. -/
abbrev hS1 : Mst := (Mst.new c0).taken kA 3 5
abbrev hS2 : Mst := hS1.pinned 1
theorem h_stats : hS2.statsV = statV 1 0 0 0 1 2 := by
  have h : hS2.L.length = 1 := by rw [show hS2.L = [r0] from h_rows]; rfl
  unfold Mst.statsV
  rw [h]
  rfl
set_option maxRecDepth 100000 in
set_option maxHeartbeats 4000000 in
theorem head_any (w : World) : Calls Try.prog 6 #[] w fun e w' => e = .returned (.bool true) ∧ Below w.heap.size w w' := by
  go_enter Try.func6, Try.ntmps6
  go_wp2_with fail
  refine (simple_any w).mono ?_
  rintro e w1 ⟨b, rfl, hs1, hb1⟩
  have hnew := mnew_ok c0 (some ⟨b, 0, none⟩) 1 w1 hs1 (by decide) c0_right
  go_wp2_with fail
  refine hnew.mono ?_
  rintro e w2 ⟨B, rfl, hM2, hb2, hl2⟩
  have hev := event_any hM2 false false kA 3 5 (by decide) (by unfold is64; decide) (by decide) (by decide)
  rw [h_event] at hev
  have hz2 := hb2.size
  have Hb2 := Lib.hid (hb1.trans (hb2.mono hb1.size))
  have Hl2 := Lib.hid hl2
  clear hnew hs1 hM2 hb2 hl2
  dsimp only at hev
  go_wp2_with fail
  refine hev.mono ?_
  rintro e w3 ⟨rfl, hM3, hT3⟩
  have hlow3 := hT3.lower Hl2.out hz2
  have hask := ask_pin hM3 1 7 (by decide) (by decide) (fun W hW => by
    have h := chkRq_any ⟨4, 7, 0, [], ⟨0, ByteArray.empty, 0⟩, ⟨0, ByteArray.empty, 0⟩, 0⟩ none 0 W (Sl.nil _ _ _ _) (by simp)
    rw [h_chk] at h
    exact h)
  rw [h_pin] at hask
  have hz3 := hlow3.1.size
  have Hlow3 := Lib.hid hlow3
  clear hev hM3 hT3 hlow3
  go_wp2_with fail
  refine hask.mono ?_
  rintro e w4 ⟨v, B4, rfl, ho4, hM4, hT4, hv4⟩
  obtain ⟨oa, oc, rfl, _⟩ := ho4.sl fun _ => rfl
  have hlow4 := hT4.lower Hlow3.out.2 (by omega)
  dsimp only [Rsp.at, respL]
  have hM4' : ∀ o : Obj, IsModel (w4.alloc o) B4 hS2 := fun o => hM4.below ((Below.refl _ _).alloc (Nat.le_refl _) o)
  have hmap := fun o => mMap_any (hM4' o) (by rw [show hS2.L = [r0] from h_rows]; decide)
  rw [show hS2.L = [r0] from h_rows] at hmap
  have hmp : B4.mp = B.mp := hT4.mp
  have HM4 := Lib.hid hM4'
  have Hlow4 := Lib.hid hlow4
  have Hmap := Lib.hid hmap
  clear hask ho4 hM4 hT4 hv4 hlow4 hM4' hmap
  rw [← hmp]
  go_wp2_with fail
  generalize hW5 : World.alloc w4 _ = W5
  have hf5 : W5.heap[w4.heap.size]? = some (.cells (respL 2 7 0 1 (.slice oa 0 oc) 0 0 0 0 0 0) 41 (0, 0)) := by rw [← hW5]; exact blk_at rfl
  have hb5 : Below w4.heap.size w4 W5 := by rw [← hW5]; exact (Below.refl _ _).alloc (Nat.le_refl _) _
  have hM5 : IsModel W5 B4 hS2 := by rw [← hW5]; exact HM4.out _
  have hmap5 := mMap_any hM5 (by rw [show hS2.L = [r0] from h_rows]; decide)
  rw [show hS2.L = [r0] from h_rows, hmp] at hmap5
  have HM5 := Lib.hid hM5
  have Hb5 := Lib.hid hb5
  clear hM5 hb5 hW5
  refine hmap5.mono ?_
  rintro e w6 ⟨v6, rfl, ho6, hb6⟩
  obtain ⟨o6, c6, rfl, _, hsl6, _, _⟩ := ho6.sl fun _ => rfl
  obtain ⟨g6, hg6, _, _⟩ := ho6.pos (by decide)
  subst hg6
  obtain ⟨g7, off7, he7, _, hc7⟩ := hsl6 0 (by decide)
  cases he7
  have s4 : w6.cell? ⟨g6, 4, none⟩ = some (.int .i64 5) := by simpa using hc7 4 (.int .i64 5) rfl
  have hf6 := (hb6.block _ (lt_of_block hf5)).trans hf5
  have y0 := cell_blk hf6 0
  have y1 := cell_blk hf6 1
  have y3 := cell_blk hf6 3
  simp at y0 y1 y3
  have hM6 := HM5.out.below hb6
  have hst := stats_any hM6
  rw [h_stats, hmp] at hst
  have Hb6 := Lib.hid hb6
  clear hc7 hsl6 ho6 hf6 hf5 hM6 hb6 hmap5
  go_wp2_with fail
  refine hst.mono ?_
  rintro e w7 ⟨rfl, hb7⟩
  dsimp only [statV]
  have hfd : ∀ W : World, (Instr.field 39 (.agg #[.int .i64 1, .int .i64 0, .int .i64 0, .int .i64 0, .int .i64 1, .int .i64 2]) 5).run Try.prog W = .ok (.int .i64 2) W := fun _ => by kernel_rfl
  go_wp2_with fail
  go_ret
  have h4 := Hlow4.out.1
  have h3 := Hlow3.out.1
  have k1 : w.heap.size ≤ w1.heap.size := hb1.size
  have k4 := h4.size
  have k5 := Hb5.out.size
  have k6 := Hb6.out.size
  have a2 := Hb2.out.trans (h3.mono k1)
  have a4 := a2.trans (h4.mono k1)
  have a5 := a4.trans (Hb5.out.mono a4.size)
  have a6 := a5.trans (Hb6.out.mono a5.size)
  exact ⟨rfl, a6.trans (hb7.mono a6.size)⟩
end Go.Proofs.Ytaicecnfodhlcaa
