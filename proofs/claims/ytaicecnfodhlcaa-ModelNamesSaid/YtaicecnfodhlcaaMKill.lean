/- Kill. -/
import Derived.Test.YtaicecnfodhlcaaMCopy
set_option linter.unusedVariables false
set_option linter.unusedSimpArgs false
namespace Go.Proofs.Ytaicecnfodhlcaa
open Go.RowKit Go.Deep

/-- What an operation may turn: the model's own blocks; where its blocks lie behind it. -/
structure Turn (w w' : World) (B B' : MB) : Prop where
  mp : B'.mp = B.mp
  chg : ChgP (fun g => B.lab g ≠ .no) w w'
  lab : ∀ g, B'.lab g ≠ .no → B.lab g ≠ .no ∨ w.heap.size ≤ g
theorem Turn.trans {a b c : World} {B B' B'' : MB} (h : Turn a b B B') (k : Turn b c B' B'') : Turn a c B B'' :=
  ⟨k.mp.trans h.mp, h.chg.late k.chg h.lab, fun g hg => by
    rcases k.lab g hg with h1 | h1
    · exact h.lab g h1
    · exact .inr (Nat.le_trans h.chg.size h1)⟩
theorem Turn.of_below {w w' : World} (B : MB) (h : Below w.heap.size w w') : Turn w w' B B := ⟨rfl, ChgP.of_below h, fun g hg => .inl hg⟩
theorem Turn.of_chg {w w' : World} {B : MB} {l : List Nat} (h : Chg l w w') (hl : ∀ g ∈ l, B.lab g ≠ .no) : Turn w w' B B := ⟨rfl, (ChgP.of h).mono hl, fun g hg => .inl hg⟩

theorem IsModel.viewAt {w : World} {B : MB} {S : Mst} (h : IsModel w B S) {i : Nat} (hi : i < S.cfg.vs.length) : ∃ vb vo, B.av = some ⟨vb, vo, none⟩ ∧ vb < w.heap.size ∧ w.cell? ⟨vb, vo + i * 3, none⟩ = some (.int .i64 S.cfg.vs[i].size) ∧ w.cell? ⟨vb, vo + i * 3 + 1, none⟩ = some (.int .i64 S.cfg.vs[i].slide) ∧ w.cell? ⟨vb, vo + i * 3 + 2, none⟩ = some (.int .i64 S.cfg.vs[i].late) :=
  (h.views.own.sl0 fun _ => rfl).at3 hi rfl
theorem IsModel.markAt {w : World} {B : MB} {S : Mst} (h : IsModel w B S) {o : Int} (h0 : 0 ≤ o) (h1 : o < S.cfg.op) : ∃ mb mo bm bl, B.ma = some ⟨mb, mo, none⟩ ∧ mb < w.heap.size ∧ w.cell? ⟨mb, mo + o.toNat, none⟩ = some (.pointer (some ⟨bm, 0, none⟩)) ∧ IsMarks w bm bl (S.ms.getD o.toNat []) := by
  have hio : o.toNat < S.ms.length := toNat_lt h0 (by rw [h.inv.msl]; exact h1)
  have hik : o.toNat < B.mks.length := by rw [h.marks.len]; exact hio
  obtain ⟨mb, mo, hme, hmb, hm0⟩ := (h.marks.own.sl0 (fun _ => rfl)).at1 hik rfl
  rw [Nat.mul_one] at hm0
  have hmk := (h.marks.at' o.toNat hik hio).1
  have hlo : S.ms.getD o.toNat [] = S.ms[o.toNat] := by simp [hio]
  rw [hlo]
  exact ⟨mb, mo, _, _, hme, hmb, hm0, hmk⟩

/-- The cell c is let go: the state behind it, and what is told. -/
def Mst.kill (S : Mst) (c : Cell) : Mst × Int :=
  if hasC S.L c = true then
    if S.dueP (oprK c.k S.cfg.op) c = true then
      if S.dueOf (oprK c.k S.cfg.op) = some c then ({ S with L := S.L.filter fun r => decide (r.cell ≠ c) }, 0) else (S, 53)
    else (S, 51)
  else (S, 51)
theorem Mst.Inv.filter {S : Mst} (h : S.Inv) (p : Rw → Bool) : ({ S with L := S.L.filter p } : Mst).Inv :=
  ⟨h.cfg, h.msl, h.mrow, h.tdl, List.Pairwise.sublist (List.Sublist.map _ List.filter_sublist) h.rise, fun r hr => h.may r (List.mem_filter.1 hr).1, h.now, h.old, h.slk, h.sok, h.cnt, h.tms, h.tok⟩
/-- A cell is deleted. -/
theorem HasMap.del {w : World} {b : Nat} {L : List Rw} (h : HasMap w b L) (v : Int) (k : ByteArray) (s : Int) (ty : TypeId) :
    ∃ w', (Builtin.delete_ #[83, 46] ty #[.map (some b), .agg #[.int .i64 v, .string k, .int .i64 s]]).run Try.prog w = .ok (.tuple #[]) w' ∧ HasMap w' b (L.filter fun r => decide (r.cell ≠ ⟨v, k, s⟩)) ∧ Chg [b] w w' ∧ w'.heap.size = w.heap.size := by
  obtain ⟨m, hm, hp⟩ := h
  obtain ⟨w', h1, h2, h3, h4⟩ := MapIs.delete (P := Try.prog) keyCell Try.underlying83 hm ⟨v, k, s⟩ ty
  refine ⟨w', h1, ⟨_, h2, ?_⟩, Chg.of_grown h3, h4⟩
  unfold mDel
  have h5 := hp.filter fun p => decide (p.1 ≠ (⟨v, k, s⟩ : Cell))
  refine h5.trans ?_
  rw [List.filter_map]
  exact List.Perm.refl _

/-- What stays in Kill's drawn regions. -/
abbrev KillA (mp bt g : Nat) (v : Int) (k : ByteArray) (s : Int) (lk : Value) (W0 W : World) : Prop :=
  Below W0.heap.size W0 W ∧ W.cell? ⟨mp, 12, none⟩ = some (.map (some bt)) ∧ W.cell? ⟨g, 0, none⟩ = some (.int .i64 v) ∧ W.cell? ⟨g, 1, none⟩ = some (.string k) ∧ W.cell? ⟨g, 2, none⟩ = some (.int .i64 s) ∧
    (Instr.lookup 83 (.map (some bt)) (.agg #[.int .i64 v, .string k, .int .i64 s]) true).run Try.prog W = .ok lk W

abbrev KillB (mp vb vo i n vcap mb mo k nm mcap bm g : Nat) (va vb' vc xv xs : Int) (W0 W : World) : Prop :=
  Below W0.heap.size W0 W ∧ W.cell? ⟨mp, 0, none⟩ = some (.slice (some ⟨vb, vo, none⟩) n vcap) ∧ W.cell? ⟨mp, 13, none⟩ = some (.slice (some ⟨mb, mo, none⟩) nm mcap) ∧
    W.cell? ⟨vb, vo + i * 3, none⟩ = some (.int .i64 va) ∧ W.cell? ⟨vb, vo + i * 3 + 1, none⟩ = some (.int .i64 vb') ∧ W.cell? ⟨vb, vo + i * 3 + 2, none⟩ = some (.int .i64 vc) ∧
    W.cell? ⟨mb, mo + k, none⟩ = some (.pointer (some ⟨bm, 0, none⟩)) ∧ W.cell? ⟨g, 0, none⟩ = some (.int .i64 xv) ∧ W.cell? ⟨g, 2, none⟩ = some (.int .i64 xs)

set_option maxRecDepth 100000 in
set_option maxHeartbeats 8000000 in
theorem kill_any {w : World} {B : MB} {S : Mst} (h : IsModel w B S) (c : Cell) (hmax : S.L.length ≤ 100000000) :
    Calls Try.prog 16 #[.pointer (some ⟨B.mp, 0, none⟩), .agg #[.int .i64 c.v, .string c.k, .int .i64 c.s]] w fun e w' => e = .returned (.int .i64 (S.kill c).2) ∧ IsModel w' B (S.kill c).1 ∧ Turn w w' B B := by
  obtain ⟨xv, xk, xs⟩ := c
  have hmp : B.mp < w.heap.size := h.lt _ (by rw [h.obj.lb]; simp)
  have hb0 : Below w.heap.size w (w.alloc (.cells #[.int .i64 xv, .string xk, .int .i64 xs] 46)) := (Below.refl _ _).alloc (Nat.le_refl _) _
  have hM : ∀ W, Below w.heap.size w W → IsModel W B S := fun W hW => h.below hW
  have hz0 : (w.alloc (.cells #[.int .i64 xv, .string xk, .int .i64 xs] 46)).heap.size = w.heap.size + 1 := by simp
  have kp : ∀ W, Below (w.alloc (.cells #[.int .i64 xv, .string xk, .int .i64 xs] 46)).heap.size (w.alloc (.cells #[.int .i64 xv, .string xk, .int .i64 xs] 46)) W → KillA B.mp B.bt w.heap.size xv xk xs (.tuple #[aggV (getA S.L ⟨xv, xk, xs⟩).c (getA S.L ⟨xv, xk, xs⟩).s (getA S.L ⟨xv, xk, xs⟩).mn (getA S.L ⟨xv, xk, xs⟩).mx, .bool (hasC S.L ⟨xv, xk, xs⟩)]) (w.alloc (.cells #[.int .i64 xv, .string xk, .int .i64 xs] 46)) W := by
    intro W hW
    have hbw := hb0.trans (hW.mono (by omega))
    have hm := hM W hbw
    have f7 := (hW.block w.heap.size (by omega)).trans (blk_at (w := w) (o := .cells #[.int .i64 xv, .string xk, .int .i64 xs] 46) rfl)
    obtain ⟨_, _, _, _, c12, _⟩ := hm.obj.cells
    have hg := hm.there.map.get xv xk xs true
    exact ⟨hW, c12, cell_blk f7 0, cell_blk f7 1, cell_blk f7 2, hg⟩
  generalize hAg : getA S.L ⟨xv, xk, xs⟩ = ag at *
  generalize hHas : hasC S.L ⟨xv, xk, xs⟩ = hs at *
  obtain ⟨ac, au, an, ax⟩ := ag
  dsimp only at *
  have Hh := Lib.hid h
  have HM := Lib.hid hM
  have Hb0 := Lib.hid hb0
  have HAg := Lib.hid hAg
  have HHas := Lib.hid hHas
  have Hmax := Lib.hid hmax
  clear h hM hz0 hAg hHas hmax
  generalize hW0 : w.alloc (.cells #[.int .i64 xv, .string xk, .int .i64 xs] 46) = W0 at *
  have HW0 := Lib.hid hW0
  clear hW0
  go_enter Try.func16, Try.ntmps16
  go_wp2_with fail
  rw [HW0.out]
  have kpD := kp _ (Below.refl _ _).drew
  go_region_held3 (fun W => KillA B.mp B.bt w.heap.size xv xk xs (.tuple #[aggV ac au an ax, .bool hs]) W0 W) (first | exact kpD | assumption | exact kp _ ((Below.refl _ _).drew.alloc (Nat.le_refl _) _)) (fail)
  all_goals (
    cases hs
    · have hfin : (S.kill ⟨xv, xk, xs⟩) = (S, 51) := by unfold Mst.kill; rw [HHas.out]; rfl
      have Hfin := Lib.hid hfin
      clear hfin
      go_wp2_with fail
      go_ret
      have hb1 : Below w.heap.size w (W0.alloc (.cells #[.int .i64 ac, .int .i64 au, .int .i64 an, .int .i64 ax] 51)).drew := (hb0.alloc hb0.size _).drew
      rw [Hfin.out]
      exact ⟨rfl, HM.out _ hb1, Turn.of_below B hb1⟩
    · have hcm : (⟨xv, xk, xs⟩ : Cell) ∈ S.L.map (·.cell) := hasC_iff.1 HHas.out
      obtain ⟨r, hrL, hrc⟩ := List.mem_map.1 hcm
      obtain ⟨⟨i, hi, hci, _, hck, hcs1, hcs2⟩, _⟩ := Hh.out.inv.may r hrL
      rw [hrc] at hci hck hcs1 hcs2
      simp only at hci hck hcs1 hcs2
      subst hci
      have hb1 : Below w.heap.size w (W0.alloc (.cells #[.int .i64 ac, .int .i64 au, .int .i64 an, .int .i64 ax] 51)).drew := (hb0.alloc hb0.size _).drew
      have hopr := mOperator_any (HM.out _ hb1) xk (Nat.le_trans hck (by decide))
      have hbd := oprK_bd xk Hh.out.inv.cfg.op.1 Hh.out.inv.cfg.op.2
      obtain ⟨vb, vo, hve, hvb, v0, v1, v2⟩ := Hh.out.viewAt hi
      obtain ⟨mb, mo, bm, bl, hme, hmb, m0, hmk⟩ := Hh.out.markAt hbd.1 hbd.2
      have hvok := Hh.out.inv.cfg.vok _ (List.getElem_mem hi)
      have hdue := due_any (Hh.out) (oprK xk S.cfg.op) hbd.1 hbd.2
      obtain ⟨c0, _, _, _, _, c13, _⟩ := Hh.out.obj.cells
      have hdp : S.dueP (oprK xk S.cfg.op) ⟨i, xk, xs⟩ = (S.cfg.vs[i]).shut xs (leastOf (S.ms.getD (oprK xk S.cfg.op).toNat [])) := by
        unfold Mst.dueP
        simp [hi]
      have Hdp := Lib.hid hdp
      have f8 : (W0.alloc (.cells #[.int .i64 ac, .int .i64 au, .int .i64 an, .int .i64 ax] 51)).drew.heap[w.heap.size]? = some (.cells #[.int .i64 i, .string xk, .int .i64 xs] 46 (0, 0)) := by
        have e1 : W0.heap[w.heap.size]? = some (.cells #[.int .i64 i, .string xk, .int .i64 xs] 46 (0, 0)) := by rw [← HW0.out]; exact blk_at rfl
        exact (blk_old (lt_of_block e1)).trans e1
      have hoi : oprK xk S.cfg.op < (S.ms.length : Int) := by rw [Hh.out.inv.msl]; exact hbd.2
      have hoo : ((oprK xk S.cfg.op).toNat : Int) = oprK xk S.cfg.op := by omega
      have hdueF : dueV (S.dueOf (oprK xk S.cfg.op)) = dueV (S.dueOf (oprK xk S.cfg.op)) := rfl
      have hop0 := hbd.1
      rw [hve] at c0
      rw [hme] at c13
      generalize hW1 : (W0.alloc (.cells #[.int .i64 ac, .int .i64 au, .int .i64 an, .int .i64 ax] 51)).drew = W1 at *
      have HW1 := Lib.hid hW1
      have Hbd := Lib.hid hbd
      have kB : ∀ W, Below W1.heap.size W1 W → KillB B.mp vb vo i S.cfg.vs.length B.vcap mb mo (oprK xk S.cfg.op).toNat S.ms.length B.mcap bm w.heap.size S.cfg.vs[i].size S.cfg.vs[i].slide S.cfg.vs[i].late i xs W1 W := by
        intro W hW
        have hbw := hb1.trans (hW.mono hb1.size)
        have f9 := (hW.block w.heap.size (lt_of_block f8)).trans f8
        exact ⟨hW, (hbw.cell (p := ⟨B.mp, 0, none⟩) hmp).trans c0, (hbw.cell (p := ⟨B.mp, 13, none⟩) hmp).trans c13, (hbw.cell (p := ⟨vb, _, none⟩) hvb).trans v0, (hbw.cell (p := ⟨vb, _, none⟩) hvb).trans v1, (hbw.cell (p := ⟨vb, _, none⟩) hvb).trans v2, (hbw.cell (p := ⟨mb, _, none⟩) hmb).trans m0, cell_blk f9 0, cell_blk f9 2⟩
      have hls : ∀ W, Below W1.heap.size W1 W → Calls Try.prog 24 #[.pointer (some ⟨bm, 0, none⟩)] W fun e w' => e = .returned (.int .i64 (leastOf (S.ms.getD (oprK xk S.cfg.op).toNat []))) ∧ W = w' := by
        intro W hW
        have hbw := hb1.trans (hW.mono hb1.size)
        exact marksLeast_any bm bl _ W (hmk.keep (hbw.block _ hmk.lt.1) (hbw.block _ hmk.lt.2))
      have hcl := fun W => closed_any S.cfg.vs[i].size S.cfg.vs[i].slide S.cfg.vs[i].late xs (leastOf (S.ms.getD (oprK xk S.cfg.op).toNat [])) W hvok (by omega) (by omega)
      rw [show (⟨S.cfg.vs[i].size, S.cfg.vs[i].slide, S.cfg.vs[i].late⟩ : View) = S.cfg.vs[i] from rfl] at hcl
      have hdue : ∀ W, Below W1.heap.size W1 W → Calls Try.prog 29 #[.pointer (some ⟨B.mp, 0, none⟩), .int .i64 (oprK xk S.cfg.op)] W fun e w' => e = .returned (dueV (S.dueOf (oprK xk S.cfg.op))) ∧ Below W.heap.size W w' := fun W hW => due_any (HM.out _ (hb1.trans (hW.mono hb1.size))) _ Hbd.out.1 Hbd.out.2 Hmax.out
      have Hdue := Lib.hid hdue
      clear hdp hdue hdueF hvok hmk v0 v1 v2 m0 c0 c13 hbd kpD kp hcm hrc hrL hve hme hW1
      generalize hopE : oprK xk S.cfg.op = o at *
      have Hopr := Lib.hid hopE
      clear hopE
      generalize S.ms.getD o.toNat [] = ms at *
      generalize S.cfg.vs[i] = vw at *
      obtain ⟨va, vb', vc⟩ := vw
      dsimp only at *
      go_wp2_with fail
      refine hopr.mono ?_
      rintro e w2 ⟨rfl, hb2⟩
      go_wp2_with fail
      have hk2 := kB _ hb2
      have hk2D := kB _ hb2.drew
      clear hk2
      go_region_held3 (fun W => KillB B.mp vb vo i S.cfg.vs.length B.vcap mb mo o.toNat S.ms.length B.mcap bm w.heap.size va vb' vc i xs W1 W) (first | exact hk2D | assumption)
        (first
          | (go_at_call 24; refine (hls _ hk2D.1).mono ?_; rintro e w3 ⟨rfl, hw3⟩; subst hw3)
          | (go_at_call 47; refine (hcl _).mono ?_; rintro e w4 ⟨rfl, hb4⟩; have hk4 := kB _ (Below.trans hk2D.1 (hb4.mono hk2D.1.size))))
      have hb4 := Below.trans hb1 (hk4.1.mono hb1.size)
      have Hb4 := Lib.hid hb4
      cases hsh : View.shut ⟨va, vb', vc⟩ xs (leastOf ms)
      · have hfin : S.kill ⟨i, xk, xs⟩ = (S, 51) := by unfold Mst.kill; rw [HHas.out, if_pos rfl]; rw [Hopr.out, Hdp.out, hsh]; rfl
        have Hfin := Lib.hid hfin
        clear hfin
        go_wp2_with fail
        go_ret
        rw [Hfin.out]
        exact ⟨rfl, HM.out _ Hb4.out, Turn.of_below B Hb4.out⟩
      · have hdue := Hdue.out _ hk4.1
        clear hls hcl kB hb4
        go_wp2_with fail
        refine hdue.mono ?_
        rintro e w5 ⟨rfl, hb5⟩
        obtain ⟨d, hd⟩ : ∃ d, S.dueOf o = some d := by
          have hm : (⟨i, xk, xs⟩ : Cell) ∈ (S.L.map (·.cell)).filter (S.dueP o) := List.mem_filter.2 ⟨hasC_iff.1 HHas.out, by rw [Hdp.out]; exact hsh⟩
          unfold Mst.dueOf
          cases hf : (S.L.map (·.cell)).filter (S.dueP o) with
          | nil => rw [hf] at hm; cases hm
          | cons a t => exact ⟨a, rfl⟩
        obtain ⟨dv, dk, ds⟩ := d
        rw [hd]
        have hneq := fun W => run_neq_cell dv dk ds i xk xs W
        have hb5' := Hb4.out.trans (hb5.mono Hb4.out.size)
        have f5 : w5.heap[w.heap.size]? = some (.cells #[.int .i64 i, .string xk, .int .i64 xs] 46 (0, 0)) := (((hk4.1.trans (hb5.mono hk4.1.size)).block _ (lt_of_block f8))).trans f8
        have hb6 : Below w.heap.size w (w5.alloc (.cells #[.int .i64 dv, .string dk, .int .i64 ds] 46)) := hb5'.alloc hb5'.size _
        have f6 : (w5.alloc (.cells #[.int .i64 dv, .string dk, .int .i64 ds] 46)).heap[w.heap.size]? = some (.cells #[.int .i64 i, .string xk, .int .i64 xs] 46 (0, 0)) := (blk_old (lt_of_block f5)).trans f5
        have g0 := cell_blk f6 0
        have g1 := cell_blk f6 1
        have g2 := cell_blk f6 2
        simp at g0 g1 g2
        have Hf6 := Lib.hid f6
        have Hb6 := Lib.hid hb6
        have hkill : S.kill ⟨i, xk, xs⟩ = if (⟨dv, dk, ds⟩ : Cell) = ⟨i, xk, xs⟩ then ({ S with L := S.L.filter fun r => decide (r.cell ≠ (⟨i, xk, xs⟩ : Cell)) }, 0) else (S, 53) := by
          unfold Mst.kill
          rw [HHas.out, if_pos rfl]
          rw [Hopr.out, Hdp.out, hsh, if_pos rfl, hd]
          by_cases hc : (⟨dv, dk, ds⟩ : Cell) = ⟨i, xk, xs⟩
          · rw [if_pos hc, if_pos (by rw [hc])]
          · rw [if_neg hc, if_neg (fun e => hc (Option.some.inj e))]
        have Hkill := Lib.hid hkill
        clear hk4 hk2D hb5 hb2 f5 f6 hb6 hb5' hkill hd
        by_cases hc : (⟨dv, dk, ds⟩ : Cell) = ⟨i, xk, xs⟩
        · have Hc := Lib.hid hc
          have hcd : decide ((⟨dv, dk, ds⟩ : Cell) = ⟨i, xk, xs⟩) = true := by simpa using hc
          obtain ⟨w7, hdel, hm7, hc7, hz7⟩ := ((HM.out _ Hb6.out).there.map.keep (w' := (w5.alloc (.cells #[.int .i64 dv, .string dk, .int .i64 ds] 46)).drew) rfl).del i xk xs 0
          have hM6 := HM.out _ (Hb6.out.drew)
          obtain ⟨_, _, _, _, e12, _⟩ := hM6.obj.cells
          have e12' : (w5.alloc (.cells #[.int .i64 dv, .string dk, .int .i64 ds] 46)).cell? ⟨B.mp, 12, none⟩ = some (.map (some B.bt)) := e12
          have hM7 : IsModel w7 B { S with L := S.L.filter fun r => decide (r.cell ≠ (⟨i, xk, xs⟩ : Cell)) } := by
            refine hM6.mapped hm7 (Nat.le_of_eq hz7.symm) (fun g hg hn => hc7.block g hg (by simpa using hn)) rfl (hM6.inv.filter _)
          have hbt := Hh.out.there.map.lt
          have hT7 : Turn w w7 B B := (Turn.of_below B Hb6.out.drew).trans (Turn.of_chg hc7 (fun g hg => by rw [List.mem_singleton.1 hg, Hh.out.there.lb]; simp))
          have HM7 := Lib.hid hM7
          have HT7 := Lib.hid hT7
          simp only [hcd] at hneq
          clear hM6 hM7 hT7 hm7 hc7 hc hcd e12
          go_wp2_with fail
          generalize w5.alloc (.cells #[.int .i64 dv, .string dk, .int .i64 ds] 46) = W6 at *
          go_region
          go_wp2_with fail
          go_ret
          rw [Hkill.out, if_pos Hc.out]
          exact ⟨rfl, HM7.out, HT7.out⟩
        · have hcd : decide ((⟨dv, dk, ds⟩ : Cell) = ⟨i, xk, xs⟩) = false := by simpa using hc
          have Hc := Lib.hid hc
          simp only [hcd] at hneq
          clear hc hcd
          go_wp2_with fail
          go_ret
          rw [Hkill.out, if_neg Hc.out]
          exact ⟨rfl, HM.out _ Hb6.out, Turn.of_below B Hb6.out⟩)
end Go.Proofs.Ytaicecnfodhlcaa
