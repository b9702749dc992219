/- Mark: the walk. -/
import Derived.Test.YtaicecnfodhlcaaMMark
set_option linter.unusedVariables false
set_option linter.unusedSimpArgs false
namespace Go.Proofs.Ytaicecnfodhlcaa
open Go.RowKit Go.Deep

/-- An append in a drawn region, by its run. -/
theorem step_append_run {P : Program} {w w' : World} {ops : Array Oper} {o : Oper} {a : Act} {K : Act → World → Prop} {Q : Exit → Act → World → Prop} {E : Prop} (hgd : o.guard = none) (s x : Operand) (t : TypeId)
    (ho : o.op = .call { callee := .builtin .append, args := #[s, x], argTypes := #[t, t] }) {v y v' : Value} (hs : a.eval s = v) (hx : a.eval x = y) (hr : ∀ ty, (Builtin.append_ #[t, t] ty #[v, y]).run P w = .ok v' w') (h : K (a.put o.dst v') w') :
    if Region.wanted o (yielded ops a.tmps) = true then Oper.wp P o a w K Q else E := by
  have hw : Region.wanted o (yielded ops a.tmps) = true := by simp [Region.wanted, hgd]
  rw [if_pos hw]
  unfold Oper.wp execOp
  simp only [ho, resolve, invoke, builtin, Sem.run_bind, Sem.run_pure, Result.andThen_ok, List.map_toArray, List.map_cons, List.map_nil, hs, hx, hr]
  exact h

set_option maxRecDepth 100000 in
set_option maxHeartbeats 8000000 in
theorem mark_due {w : World} {B : MB} {S : Mst} (h : IsModel w B S) (o s t : Int) (h1 : 0 ≤ o) (h2 : o < S.cfg.op) (h3 : 0 ≤ s) (h4 : s < S.cfg.so) (h5 : -1152921504606846976 ≤ t) (h6 : t ≤ 1152921504606846976) (hmax : S.L.length ≤ 100000000) (hd : (S.dueOf o).isSome = true) :
    Calls Try.prog 15 #[.pointer (some ⟨B.mp, 0, none⟩), .int .i64 o, .int .i64 s, .int .i64 t] w fun e w' => e = .returned (.int .i64 53) ∧ Below w.heap.size w w' := by
  have hdue := due_any h o h1 h2 hmax
  obtain ⟨_, c1, c2, _⟩ := h.obj.cells
  clear h hmax
  obtain ⟨d, hd2⟩ := Option.isSome_iff_exists.1 hd
  rw [hd2] at hdue
  obtain ⟨dv, dk, ds⟩ := d
  clear hd hd2
  generalize S.cfg.op = n at *
  generalize S.cfg.so = m at *
  have a1 : ¬ o < 0 := by omega
  have a2 : ¬ n ≤ o := by omega
  have a3 : ¬ s < 0 := by omega
  have a4 : ¬ m ≤ s := by omega
  have a5 : ¬ t < -1152921504606846976 := by omega
  have a6 : ¬ 1152921504606846976 < t := by omega
  go_enter Try.func15, Try.ntmps15
  go_wp2_with fail
  refine hdue.mono ?_
  rintro e w1 ⟨rfl, hb1⟩
  have Hb1 := Lib.hid hb1
  clear hb1 hdue
  go_wp2_with fail
  go_ret
  exact ⟨rfl, Hb1.out.alloc Hb1.out.size _⟩

set_option maxRecDepth 100000 in
set_option maxHeartbeats 8000000 in
theorem mark_ok {w : World} {B : MB} {S : Mst} (h : IsModel w B S) (o s t : Int) (h1 : 0 ≤ o) (h2 : o < S.cfg.op) (h3 : 0 ≤ s) (h4 : s < S.cfg.so) (h5 : -1152921504606846976 ≤ t) (h6 : t ≤ 1152921504606846976) (hmax : S.L.length ≤ 100000000) (hd : S.dueOf o = none) (htl : ∀ l ∈ S.told, l.length ≤ 100000000) :
    Calls Try.prog 15 #[.pointer (some ⟨B.mp, 0, none⟩), .int .i64 o, .int .i64 s, .int .i64 t] w fun e w' => e = .returned (.int .i64 0) ∧ ∃ B', IsModel w' B' (S.marked o s t) ∧ Turn w w' B B' := by
  have hdue := due_any h o h1 h2 hmax
  rw [hd] at hdue
  have hio : o.toNat < S.ms.length := toNat_lt h1 (by rw [h.inv.msl]; exact h2)
  have hid : o.toNat < S.told.length := by rw [h.inv.tdl]; exact hio
  have hik : o.toNat < B.mks.length := by rw [h.marks.len]; exact hio
  have hit : o.toNat < B.tk.length := by rw [h.told.len]; exact hid
  have hoS : o < (S.ms.length : Int) := by rw [h.inv.msl]; exact h2
  have hoT : o < (S.told.length : Int) := by rw [h.inv.tdl]; exact hoS
  have hmk := h.marks.at' o.toNat hik hio
  have hso : s < ((S.ms[o.toNat]).length : Int) := by rw [h.inv.mrow _ (List.getElem_mem hio)]; exact h4
  have hg1 : S.ms.getD o.toNat [] = S.ms[o.toNat] := by simp [hio]
  have hg2 : S.told.getD o.toNat [] = S.told[o.toNat] := by simp [hid]
  obtain ⟨mb, mo, hme, hmb, m0⟩ := (h.marks.own.sl0 (fun _ => rfl)).at1 hik rfl
  obtain ⟨ta, hta, _⟩ := h.told.own.pos (by omega)
  obtain ⟨tb, to', hte, htb, t0⟩ := (h.told.own.sl0 (fun _ => rfl)).at1 hit rfl
  obtain ⟨rfl, rfl⟩ : tb = ta ∧ to' = 0 := by rw [hta] at hte; cases hte; exact ⟨rfl, rfl⟩
  rw [Nat.mul_one] at m0 t0
  rw [Nat.zero_add] at t0
  have htol : (S.told[o.toNat]).length ≤ 100000000 := htl _ (List.getElem_mem hid)
  obtain ⟨_, c1, c2, _, _, c13, c14, _⟩ := h.obj.cells
  have hmp : B.mp < w.heap.size := h.lt _ (by rw [h.obj.lb]; simp)
  have htown := (h.told.at' o.toNat hit hid).1
  have hltA : B.lab tb = .toldO := h.told.lb tb (by rw [hta]; rfl)
  have hltB : ∀ g, B.tk[o.toNat].v.ownBlock = some g → B.lab g = .told o.toNat := (h.told.at' o.toNat hit hid).2
  have hobl := h.obj.lb
  have hoo : (o.toNat : Int) = o := by omega
  have hrise : ∀ W, Below w.heap.size w W → Calls Try.prog 23 #[.pointer (some ⟨B.mks[o.toNat].1, 0, none⟩), .int .i64 s, .int .i64 t] W fun e w' => ∃ b : Bool, e = .returned (.tuple #[.bool b, .int .i64 0]) ∧ IsMarks w' B.mks[o.toNat].1 B.mks[o.toNat].2 (riseL (S.ms.getD o.toNat []) (s, t)) ∧ Chg [B.mks[o.toNat].2] W w' := by
    intro W hW
    refine (rise_ok B.mks[o.toNat].1 B.mks[o.toNat].2 S.ms[o.toNat] s t W ((h.below hW).marks.at' o.toNat hik hio).1 h3 hso h5 h6).mono ?_
    rintro e w' ⟨he, hm, hc⟩
    refine ⟨_, he, ?_, hc⟩
    rw [hg1]; exact hm
  have Hh := Lib.hid h
  have Hmk := Lib.hid hmk
  have Htown := Lib.hid htown
  have HltA := Lib.hid hltA
  have HltB := Lib.hid hltB
  have Hhd := Lib.hid hd
  have Hg2 := Lib.hid hg2
  rw [hta] at c14
  rw [hme] at c13
  clear h hmk htown hltA hltB hd hg1 hmax htl hte hg2
  generalize hvE : B.tk[o.toNat] = tv at *
  obtain ⟨va, vn, vc⟩ := tv
  have HvE := Lib.hid hvE
  clear hvE
  have a1 : ¬ o < 0 := by omega
  have a2 : ¬ S.cfg.op ≤ o := by omega
  have a3 : ¬ s < 0 := by omega
  have a4 : ¬ S.cfg.so ≤ s := by omega
  have a5 : ¬ t < -1152921504606846976 := by omega
  have a6 : ¬ 1152921504606846976 < t := by omega
  generalize hbmE : B.mks[o.toNat].1 = bm at *
  generalize hblE : B.mks[o.toNat].2 = bl at *
  have HbmE := Lib.hid hbmE
  have HblE := Lib.hid hblE
  clear hbmE hblE
  go_enter Try.func15, Try.ntmps15
  go_wp2_with fail
  refine hdue.mono ?_
  rintro e w1 ⟨rfl, hb1⟩
  have hb2 : Below w.heap.size w (w1.alloc (.cells #[.int .i64 (default : Cell).v, .string (default : Cell).k, .int .i64 (default : Cell).s] 46)) := hb1.alloc hb1.size _
  have hr2 := hrise _ hb2
  have d13 := (hb2.cell (p := ⟨B.mp, 13, none⟩) hmp).trans c13
  have e0 := (hb2.cell (p := ⟨mb, _, none⟩) hmb).trans m0
  clear hdue
  go_wp2_with fail
  refine hr2.mono ?_
  rintro e w3 ⟨bb, rfl, hm3, hc3⟩
  have hk3 : ∀ g, g < w.heap.size → g ≠ bl → w3.heap[g]? = w.heap[g]? := fun g hg hn => (hc3.block g (Nat.lt_of_lt_of_le hg hb2.size) (by simpa using hn)).trans (hb2.block g hg)
  have hc3w : Chg [bl] w w3 := ⟨hc3.os.trans hb2.os, hc3.tape.trans hb2.tape, hc3.output.trans hb2.output, Nat.le_trans hb2.size hc3.size, fun g hg hn => hk3 g hg (by simpa using hn)⟩
  have hnbl : ∀ g l, B.lab g = l → l ≠ .mrow o.toNat → g ≠ bl := fun g l h1 h2 e => h2 (by rw [← h1, e]; exact Hmk.out.2.2)
  have hbt3 : ∀ (g : Nat) (k : Nat), g < w.heap.size → g ≠ bl → w3.cell? ⟨g, k, none⟩ = w.cell? ⟨g, k, none⟩ := fun g k hg hn => World.cell?_of_block (a := ⟨g, k, none⟩) (hk3 g hg hn)
  have e14 := (hbt3 B.mp 14 hmp (hnbl _ _ hobl (by simp))).trans c14
  have et0 := (hbt3 tb o.toNat htb (hnbl _ _ HltA.out (by simp))).trans t0
  have hown3 := Htown.out.keep (w' := w3) fun g hg hgl => hk3 g hgl (hnbl g _ (HltB.out g hg) (by simp))
  have hg4 : (w3.drew.alloc (.cells #[.int .i64 s, .int .i64 t] 108)).heap[w3.heap.size]? = some (.cells #[.int .i64 s, .int .i64 t] 108 (0, 0)) := blk_at rfl
  have hb4 : Below w3.heap.size w3 (w3.drew.alloc (.cells #[.int .i64 s, .int .i64 t] 108)) := (Below.refl _ _).drew.alloc (Nat.le_refl _) _
  have hown4 := hown3.keep (w' := w3.drew.alloc (.cells #[.int .i64 s, .int .i64 t] 108)) fun g _ hgl => hb4.block g hgl
  obtain ⟨v', w5, hrun, hown5, hv5, hg5⟩ := app_call _ _ _ hown4 w3.heap.size s t hg4 htol
  obtain ⟨a', cap', rfl, _⟩ := hown5.sl fun _ => rfl
  generalize hn' : (S.told[o.toNat] ++ [(s, t)]).length = n' at *
  have hk5 : ∀ g, g < w.heap.size → g ≠ bl → ({ a := va, n := vn, cap := vc } : Slc).v.ownBlock ≠ some g → w5.heap[g]? = w.heap[g]? := fun g hg n1 n2 =>
    (hg5.block g (Nat.lt_of_lt_of_le hg (Nat.le_trans hc3w.size hb4.size)) (fun e => n2 e.symm)).trans ((hb4.block g (Nat.lt_of_lt_of_le hg hc3w.size)).trans (hk3 g hg n1))
  have hta5 := hk5 tb htb (hnbl _ _ HltA.out (by simp)) (fun e => by have := HltB.out _ e; rw [HltA.out] at this; cases this)
  have hmp5 := hk5 B.mp hmp (hnbl _ _ hobl (by simp)) (fun e => by have := HltB.out _ e; rw [hobl] at this; cases this)
  have f14 : w5.cell? ⟨B.mp, 14, none⟩ = _ := (World.cell?_of_block (a := ⟨B.mp, 14, none⟩) hmp5).trans c14
  have ft0 : w5.cell? ⟨tb, o.toNat, none⟩ = _ := (World.cell?_of_block (a := ⟨tb, o.toNat, none⟩) hta5).trans t0
  have hfz : w5.frozen? ⟨tb, o.toNat, none⟩ = false := by
    have h1 := Hh.out.told.own
    rw [hta] at h1
    exact (h1.keep (w' := w5) fun g hg _ => by rw [← Option.some.inj hg]; exact hta5).frozen o.toNat
  have hfin : ∃ B', IsModel (w5.setCell ⟨tb, o.toNat, none⟩ (.slice a' n' cap')) B' (S.marked o s t) ∧ Turn w (w5.setCell ⟨tb, o.toNat, none⟩ (.slice a' n' cap')) B B' := by
    refine Hh.out.marked (w3 := w3) (w4 := w3.drew.alloc (.cells #[.int .i64 s, .int .i64 t] 108)) h1 h2 h3 h4 h5 h6 hik (by rw [HbmE.out, HblE.out]; exact hm3) (by rw [HblE.out]; exact hc3w) hb4 hit a' n' cap' (by rw [Hg2.out]; exact hown5) (by rw [HvE.out]; exact hv5) (by rw [HvE.out]; exact hg5) tb hta
  have Hfin := Lib.hid hfin
  have Hrun := Lib.hid hrun
  have hz4 : (w3.drew.alloc (.cells #[.int .i64 s, .int .i64 t] 108)).heap.size = w3.heap.size + 1 := by simp
  have e14' := (hb4.cell (p := ⟨B.mp, 14, none⟩) (by have := hc3w.size; show B.mp < _; omega)).trans e14
  have et0' := (hb4.cell (p := ⟨tb, o.toNat, none⟩) (by have := hc3w.size; show tb < _; omega)).trans et0
  have f14s : (w5.setCell ⟨tb, o.toNat, none⟩ (.slice a' n' cap')).cell? ⟨B.mp, 14, none⟩ = some (.slice (some ⟨tb, 0, none⟩) S.told.length B.tcap) :=
    (World.cell?_of_block (a := ⟨B.mp, 14, none⟩) (Below.heap_setCell _ _ _ _ (fun e => by have h1 := HltA.out; have h2 : B.mp = tb := e; rw [← h2, hobl] at h1; cases h1))).trans f14
  clear hfin hg5 hv5 hown5 hown4 hown3 hm3 hc3 hc3w hk5 hbt3 hk3 hnbl hta5 hmp5 hr2 hrise hn' hz4 hb4 hg4
  go_wp2_with fail
  have hrun := Hrun.out
  have e14d : w3.drew.cell? ⟨B.mp, 14, none⟩ = some (.slice (some ⟨tb, 0, none⟩) S.told.length B.tcap) := e14
  have et0d : w3.drew.cell? ⟨tb, o.toNat, none⟩ = some (.slice va vn vc) := et0
  have et1 : (w3.alloc (.cells #[.int .i64 s, .int .i64 t] 108)).drew.cell? ⟨tb, o.toNat, none⟩ = some (.slice va vn vc) := et0'
  have et2 : (w3.alloc (.cells #[.int .i64 s, .int .i64 t] 108)).cell? ⟨tb, o.toNat, none⟩ = some (.slice va vn vc) := et0'
  refine wp_region_held_drew (S := fun W => W.cell? ⟨B.mp, 14, none⟩ = some (.slice (some ⟨tb, 0, none⟩) S.told.length B.tcap)) (by kernel_rfl) e14d (fun hHeld => ?_)
  refine wpAnyH_takeD (i := 0) (oi := _) (d := 60) (v := ?va0) rfl (by kernel_rfl) (by kernel_rfl) (by kernel_rfl) (by kernel_rfl) (fun _ _ _ h => h) (Or.inl ⟨by kernel_rfl, ?ya0⟩) (by assumption) ?ra0
  case ya0 =>
    intro w' hSw
    try dsimp only at hSw
    go_simp
    try with_reducible rfl
  try simp only [Act.put, List.setIfInBounds_toArray, List.set_cons_zero, List.set_cons_succ]
  refine wpAnyH_takeD (i := 1) (oi := _) (d := 61) (v := ?va1) rfl (by kernel_rfl) (by kernel_rfl) (by kernel_rfl) (by kernel_rfl) (fun _ _ _ h => h) (Or.inl ⟨by kernel_rfl, ?ya1⟩) (by assumption) ?ra1
  case ya1 =>
    intro w' hSw
    try dsimp only at hSw
    go_simp
    try with_reducible rfl
  try simp only [Act.put, List.setIfInBounds_toArray, List.set_cons_zero, List.set_cons_succ]
  refine wpAnyH_takeD (i := 2) (oi := _) (d := 62) (v := ?va2) rfl (by kernel_rfl) (by kernel_rfl) (by kernel_rfl) (by kernel_rfl) (fun _ _ _ h => h) (Or.inl ⟨by kernel_rfl, ?ya2⟩) (by assumption) ?ra2
  case ya2 =>
    intro w' hSw
    try dsimp only at hSw
    go_simp
    try with_reducible rfl
  try simp only [Act.put, List.setIfInBounds_toArray, List.set_cons_zero, List.set_cons_succ]
  refine wpAnyH_takeD (i := 3) (oi := _) (d := 63) (v := ?va3) rfl (by kernel_rfl) (by kernel_rfl) (by kernel_rfl) (by kernel_rfl) (fun _ _ _ h => h) (Or.inl ⟨by kernel_rfl, ?ya3⟩) (by assumption) ?ra3
  case ya3 =>
    intro w' hSw
    try dsimp only at hSw
    go_simp
    try with_reducible rfl
  try simp only [Act.put, List.setIfInBounds_toArray, List.set_cons_zero, List.set_cons_succ]
  refine wpAnyH_takeD (i := 4) (oi := _) (d := 64) (v := ?va4) rfl (by kernel_rfl) (by kernel_rfl) (by kernel_rfl) (by kernel_rfl) (fun _ _ _ h => h) (Or.inl ⟨by kernel_rfl, ?ya4⟩) (by assumption) ?ra4
  case ya4 =>
    intro w' hSw
    try dsimp only at hSw
    go_simp
    try with_reducible rfl
  try simp only [Act.put, List.setIfInBounds_toArray, List.set_cons_zero, List.set_cons_succ]
  refine wpAnyH_takeD (i := 5) (oi := _) (d := 65) (v := ?va5) rfl (by kernel_rfl) (by kernel_rfl) (by kernel_rfl) (by kernel_rfl) (fun _ _ _ h => h) (Or.inl ⟨by kernel_rfl, ?ya5⟩) (by assumption) ?ra5
  case ya5 =>
    intro w' hSw
    try dsimp only at hSw
    go_simp
    try with_reducible rfl
  try simp only [Act.put, List.setIfInBounds_toArray, List.set_cons_zero, List.set_cons_succ]
  refine wpAnyH_takeD (i := 6) (oi := _) (d := 66) (v := ?va6) rfl (by kernel_rfl) (by kernel_rfl) (by kernel_rfl) (by kernel_rfl) (fun _ _ _ h => h) (Or.inl ⟨by kernel_rfl, ?ya6⟩) (by assumption) ?ra6
  case ya6 =>
    intro w' hSw
    try dsimp only at hSw
    go_simp
    try with_reducible rfl
  try simp only [Act.put, List.setIfInBounds_toArray, List.set_cons_zero, List.set_cons_succ]
  refine wpAnyH_takeD (i := 7) (oi := _) (d := 67) (v := ?va7) rfl (by kernel_rfl) (by kernel_rfl) (by kernel_rfl) (by kernel_rfl) (fun _ _ _ h => h) (Or.inl ⟨by kernel_rfl, ?ya7⟩) (by assumption) ?ra7
  case ya7 =>
    intro w' hSw
    try dsimp only at hSw
    go_simp
    try with_reducible rfl
  try simp only [Act.put, List.setIfInBounds_toArray, List.set_cons_zero, List.set_cons_succ]
  refine wpAnyH_takeD (i := 8) (oi := _) (d := 68) (v := ?va8) rfl (by kernel_rfl) (by kernel_rfl) (by kernel_rfl) (by kernel_rfl) (fun _ _ _ h => h) (Or.inl ⟨by kernel_rfl, ?ya8⟩) (by assumption) ?ra8
  case ya8 =>
    intro w' hSw
    try dsimp only at hSw
    go_simp
    try with_reducible rfl
  try simp only [Act.put, List.setIfInBounds_toArray, List.set_cons_zero, List.set_cons_succ]
  refine wpAnyH_takeD (i := 9) (oi := _) (d := 69) (v := ?va9) rfl (by kernel_rfl) (by kernel_rfl) (by kernel_rfl) (by kernel_rfl) (fun _ _ _ h => h) (Or.inl ⟨by kernel_rfl, ?ya9⟩) (by assumption) ?ra9
  case ya9 =>
    intro w' hSw
    try dsimp only at hSw
    go_simp
    try with_reducible rfl
  try simp only [Act.put, List.setIfInBounds_toArray, List.set_cons_zero, List.set_cons_succ]
  refine wpAnyH_takeD (i := 10) (oi := _) (d := 70) (v := ?va10) rfl (by kernel_rfl) (by kernel_rfl) (by kernel_rfl) (by kernel_rfl) (fun _ _ _ h => h) (Or.inl ⟨by kernel_rfl, ?ya10⟩) (by assumption) ?ra10
  case ya10 =>
    intro w' hSw
    try dsimp only at hSw
    go_simp
    try with_reducible rfl
  try simp only [Act.put, List.setIfInBounds_toArray, List.set_cons_zero, List.set_cons_succ]
  refine wpAnyH_takeD (i := 12) (oi := _) (d := 72) (v := ?va12) rfl (by kernel_rfl) (by kernel_rfl) (by kernel_rfl) (by kernel_rfl) (fun _ _ _ h => h) (Or.inl ⟨by kernel_rfl, ?ya12⟩) (by assumption) ?ra12
  case ya12 =>
    intro w' hSw
    try dsimp only at hSw
    go_simp
    try with_reducible rfl
  try simp only [Act.put, List.setIfInBounds_toArray, List.set_cons_zero, List.set_cons_succ]
  refine wpAnyH_takeD (i := 13) (oi := _) (d := 73) (v := ?va13) rfl (by kernel_rfl) (by kernel_rfl) (by kernel_rfl) (by kernel_rfl) (fun _ _ _ h => h) (Or.inl ⟨by kernel_rfl, ?ya13⟩) (by assumption) ?ra13
  case ya13 =>
    intro w' hSw
    try dsimp only at hSw
    go_simp
    try with_reducible rfl
  try simp only [Act.put, List.setIfInBounds_toArray, List.set_cons_zero, List.set_cons_succ]
  refine wpAnyH_takeD (i := 14) (oi := _) (d := 74) (v := ?va14) rfl (by kernel_rfl) (by kernel_rfl) (by kernel_rfl) (by kernel_rfl) (fun _ _ _ h => h) (Or.inl ⟨by kernel_rfl, ?ya14⟩) (by assumption) ?ra14
  case ya14 =>
    intro w' hSw
    try dsimp only at hSw
    go_simp
    try with_reducible rfl
  try simp only [Act.put, List.setIfInBounds_toArray, List.set_cons_zero, List.set_cons_succ]
  refine wpAnyH_ready (rs := [11, 15]) (by kernel_rfl) (by simp) ?_
  refine AllReadyH.cons (o := _) rfl (fun K hK => ?_) (AllReadyH.cons (o := _) rfl (fun K hK => ?_) AllReadyH.nil)
  · go_simp
    refine hK.out _ _ e14d (fun _ => ?_)
    clear hK K
    try simp only [Act.put, List.setIfInBounds_toArray, List.set_cons_zero, List.set_cons_succ]
    refine wpAnyH_ready (rs := [15]) (by kernel_rfl) (by simp) ?_
    refine AllReadyH.cons (o := _) rfl (fun K hK => ?_) AllReadyH.nil
    go_simp
    refine hK.out _ _ e14' (fun _ => ?_)
    clear hK K
    try simp only [Act.put, List.setIfInBounds_toArray, List.set_cons_zero, List.set_cons_succ]
    refine wpAnyH_ready (rs := [16]) (by kernel_rfl) (by simp) ?_
    refine AllReadyH.cons (o := _) rfl (fun K hK => ?_) AllReadyH.nil
    refine step_append_run (by rfl) _ _ _ (by rfl) (by rfl) (by rfl) hrun ?_
    refine hK.out _ _ f14 (fun _ => ?_)
    clear hK K
    try simp only [Act.put, List.setIfInBounds_toArray, List.set_cons_zero, List.set_cons_succ]
    refine wpAnyH_takeD (i := 17) (oi := _) (d := 77) (v := ?vr1117) rfl (by kernel_rfl) (by kernel_rfl) (by kernel_rfl) (by kernel_rfl) (fun _ _ _ h => h) (Or.inl ⟨by kernel_rfl, ?yr1117⟩) (by assumption) ?rr1117
    case yr1117 =>
      intro w' hSw
      try dsimp only at hSw
      go_simp
      try with_reducible rfl
    try simp only [Act.put, List.setIfInBounds_toArray, List.set_cons_zero, List.set_cons_succ]
    refine wpAnyH_ready (rs := [18]) (by kernel_rfl) (by simp) ?_
    refine AllReadyH.cons (o := _) rfl (fun K hK => ?_) AllReadyH.nil
    go_simp
    refine hK.out _ _ f14s (fun _ => ?_)
    clear hK K
    try simp only [Act.put, List.setIfInBounds_toArray, List.set_cons_zero, List.set_cons_succ]
    refine wpAnyH_done (by kernel_rfl) ?_ _
    go_wp2_with fail
    go_ret
    exact ⟨rfl, Hfin.out⟩
  · go_simp
    refine hK.out _ _ e14' (fun _ => ?_)
    clear hK K
    try simp only [Act.put, List.setIfInBounds_toArray, List.set_cons_zero, List.set_cons_succ]
    refine wpAnyH_ready (rs := [11]) (by kernel_rfl) (by simp) ?_
    refine AllReadyH.cons (o := _) rfl (fun K hK => ?_) AllReadyH.nil
    go_simp
    refine hK.out _ _ e14' (fun _ => ?_)
    clear hK K
    try simp only [Act.put, List.setIfInBounds_toArray, List.set_cons_zero, List.set_cons_succ]
    refine wpAnyH_ready (rs := [16]) (by kernel_rfl) (by simp) ?_
    refine AllReadyH.cons (o := _) rfl (fun K hK => ?_) AllReadyH.nil
    refine step_append_run (by rfl) _ _ _ (by rfl) (by rfl) (by rfl) hrun ?_
    refine hK.out _ _ f14 (fun _ => ?_)
    clear hK K
    try simp only [Act.put, List.setIfInBounds_toArray, List.set_cons_zero, List.set_cons_succ]
    refine wpAnyH_takeD (i := 17) (oi := _) (d := 77) (v := ?vr1517) rfl (by kernel_rfl) (by kernel_rfl) (by kernel_rfl) (by kernel_rfl) (fun _ _ _ h => h) (Or.inl ⟨by kernel_rfl, ?yr1517⟩) (by assumption) ?rr1517
    case yr1517 =>
      intro w' hSw
      try dsimp only at hSw
      go_simp
      try with_reducible rfl
    try simp only [Act.put, List.setIfInBounds_toArray, List.set_cons_zero, List.set_cons_succ]
    refine wpAnyH_ready (rs := [18]) (by kernel_rfl) (by simp) ?_
    refine AllReadyH.cons (o := _) rfl (fun K hK => ?_) AllReadyH.nil
    go_simp
    refine hK.out _ _ f14s (fun _ => ?_)
    clear hK K
    try simp only [Act.put, List.setIfInBounds_toArray, List.set_cons_zero, List.set_cons_succ]
    refine wpAnyH_done (by kernel_rfl) ?_ _
    go_wp2_with fail
    go_ret
    exact ⟨rfl, Hfin.out⟩

theorem mark_any {w : World} {B : MB} {S : Mst} (h : IsModel w B S) (o s t : Int) (hmax : S.L.length ≤ 100000000) (htl : ∀ l ∈ S.told, l.length ≤ 100000000) :
    Calls Try.prog 15 #[.pointer (some ⟨B.mp, 0, none⟩), .int .i64 o, .int .i64 s, .int .i64 t] w fun e w' => e = .returned (.int .i64 (S.mark o s t).2) ∧ ∃ B', IsModel w' B' (S.mark o s t).1 ∧ Turn w w' B B' := by
  unfold Mst.mark
  by_cases h1 : o < 0 ∨ S.cfg.op ≤ o ∨ s < 0 ∨ S.cfg.so ≤ s
  · rw [if_pos h1]
    refine (mark_arg h o s t h1).mono ?_
    rintro e w' ⟨he, rfl⟩
    exact ⟨he, B, h, Turn.of_below B (Below.refl _ _)⟩
  · rw [if_neg h1]
    by_cases h2 : t < -1152921504606846976 ∨ 1152921504606846976 < t
    · rw [if_pos h2]
      refine (mark_time h o s t (by omega) (by omega) (by omega) (by omega) h2).mono ?_
      rintro e w' ⟨he, rfl⟩
      exact ⟨he, B, h, Turn.of_below B (Below.refl _ _)⟩
    · rw [if_neg h2]
      by_cases h3 : (S.dueOf o).isSome = true
      · rw [if_pos h3]
        refine (mark_due h o s t (by omega) (by omega) (by omega) (by omega) (by omega) (by omega) hmax h3).mono ?_
        rintro e w' ⟨he, hb⟩
        exact ⟨he, B, h.below hb, Turn.of_below B hb⟩
      · rw [if_neg h3]
        exact mark_ok h o s t (by omega) (by omega) (by omega) (by omega) (by omega) (by omega) hmax (by simpa using h3) htl
end Go.Proofs.Ytaicecnfodhlcaa
