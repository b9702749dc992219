/- New. -/
import Derived.Test.YtaicecnfodhlcaaMNewP
import Derived.Test.YtaicecnfodhlcaaMRight
import Derived.Deep.CutRange
set_option linter.unusedVariables false
set_option linter.unusedSimpArgs false
namespace Go.Proofs.Ytaicecnfodhlcaa
open Go.RowKit Go.Deep

set_option maxRecDepth 100000 in
set_option maxHeartbeats 8000000 in
theorem mnew_bad (c : Cfg) (a : Option Addr) (cap : Nat) (w : World) (hs : Sl 3 viewL w a c.vs) (hl : c.vs.length ≤ 1000000000) (hr : c.right = false) :
    Calls Try.prog 9 #[cfgV c a cap] w fun e w' => e = .returned (.tuple #[.pointer none, .int .i64 24]) ∧ Below w.heap.size w w' := by
  have hb0 : Below w.heap.size w (w.alloc (cfgO c a cap)) := (Below.refl _ _).alloc (Nat.le_refl _) _
  have hri := right_any c a cap (w.alloc (cfgO c a cap)) (hs.below hb0) hl
  rw [hr] at hri
  have Hb0 := Lib.hid hb0
  clear hb0 hs hr
  obtain ⟨vs, so, op, sh, sl, bx, ad, pi, ch, fr, inn, out⟩ := c
  dsimp only at *
  go_enter Try.func9, Try.ntmps9
  go_wp2_with fail
  refine hri.mono ?_
  rintro e w1 ⟨rfl, hb1⟩
  go_wp2_with fail
  go_ret2
  exact ⟨rfl, Hb0.out.trans (hb1.mono Hb0.out.size)⟩

/-- What stays in the drawn region. -/
abbrev NewA (g : Nat) (vs : Value) (so op sh sl bx ad pi ch fr inn out : Int) (W0 W : World) : Prop :=
  Below W0.heap.size W0 W ∧ W.cell? ⟨g, 0, none⟩ = some vs ∧ W.cell? ⟨g, 1, none⟩ = some (.int .i64 so) ∧ W.cell? ⟨g, 2, none⟩ = some (.int .i64 op) ∧ W.cell? ⟨g, 3, none⟩ = some (.int .i64 sh) ∧ W.cell? ⟨g, 4, none⟩ = some (.int .i64 sl) ∧ W.cell? ⟨g, 5, none⟩ = some (.int .i64 bx) ∧
    W.cell? ⟨g, 6, none⟩ = some (.int .i64 ad) ∧ W.cell? ⟨g, 7, none⟩ = some (.int .i64 pi) ∧ W.cell? ⟨g, 8, none⟩ = some (.int .i64 ch) ∧ W.cell? ⟨g, 9, none⟩ = some (.int .i64 fr) ∧ W.cell? ⟨g, 10, none⟩ = some (.int .i64 inn) ∧ W.cell? ⟨g, 11, none⟩ = some (.int .i64 out)
theorem own_drew {α : Type} {E sz B : Nat} {enc : α → List Value} {w : World} {v : Value} {xs : List α} (h : Own E sz enc B w v xs) : Own E sz enc B w.drew v xs := h.keep fun g _ _ => rfl
theorem below_up {a w : World} (h : Below a.heap.size a w) (o : Obj) : Below a.heap.size a (w.alloc o) := h.alloc h.size o
theorem meet_end3 {K J : Act → World → Prop} {Q : Exit → Act → World → Prop} {a : Act} {w : World} (h : ∀ a' w', Met J a' w' → K a' w') (h2 : J a w) : Exit.then K Q Exit.normal a w := h _ _ h2

set_option maxRecDepth 100000 in
set_option maxHeartbeats 8000000 in
theorem mnew_ok (c : Cfg) (a : Option Addr) (cap : Nat) (w : World) (hs : Sl 3 viewL w a c.vs) (hl : c.vs.length ≤ 1000000000) (hr : c.right = true) :
    Calls Try.prog 9 #[cfgV c a cap] w fun e w' => ∃ B, e = .returned (.tuple #[.pointer (some ⟨B.mp, 0, none⟩), .int .i64 0]) ∧ IsModel w' B (Mst.new c) ∧ Below w.heap.size w w' ∧ ∀ g, B.lab g ≠ .no → w.heap.size ≤ g := by
  have hok := Cfg.right_ok hr
  have hb0 : Below w.heap.size w (w.alloc (cfgO c a cap)) := (Below.refl _ _).alloc (Nat.le_refl _) _
  have hri := right_any c a cap (w.alloc (cfgO c a cap)) (hs.below hb0) hl
  rw [hr] at hri
  have hf0 : (w.alloc (cfgO c a cap)).heap[w.heap.size]? = some (cfgO c a cap) := blk_at rfl
  have hz0 : w.heap.size < (w.alloc (cfgO c a cap)).heap.size := by simp
  obtain ⟨va, vo, rfl, hva⟩ : ∃ va vo, a = some ⟨va, vo, none⟩ ∧ va < w.heap.size := by
    obtain ⟨va, vo, e, h, _⟩ := hs.at3 (i := 0) (by have := hok.vlo; omega) rfl
    exact ⟨va, vo, e, h⟩
  have hcl := fun W (hW : Below w.heap.size w W) => cloneViews_any va vo cap c.vs W (hs.below hW) hl
  obtain ⟨mo, hmo⟩ := make_own' sz_calls (fun _ => rfl) c.op.toNat (by have := hok.op; omega) (by decide)
  have hon : ((c.op.toNat : Nat) : Int) = c.op := by have := hok.op; omega
  rw [hon] at hmo
  have hmk := fun W => marksNew_any c.so W hok.so.1 hok.so.2
  have Hb0 := Lib.hid hb0
  have Hok := Lib.hid hok
  have Hf0 := Lib.hid hf0
  have Hcl := Lib.hid hcl
  have Hmo := Lib.hid hmo
  have Hmk := Lib.hid hmk
  have Hon := Lib.hid hon
  clear hb0 hs hr hok hf0 hcl hmo hmk hon
  obtain ⟨vs, so, op, sh, sl, bx, ad, pi, ch, fr, inn, out⟩ := c
  dsimp only at *
  go_enter Try.func9, Try.ntmps9
  go_wp2_with fail
  refine hri.mono ?_
  rintro e w1 ⟨rfl, hb1⟩
  have Hb1 := Lib.hid (Hb0.out.trans (hb1.mono Hb0.out.size))
  have hf1 := (hb1.block _ hz0).trans Hf0.out
  have q0 := cell_blk hf1 0
  have Hf1 := Lib.hid hf1
  clear hb1 hri hf1
  simp at q0
  go_wp2_with fail
  refine (Hcl.out _ Hb1.out).mono ?_
  rintro e w2 ⟨v2, rfl, hown, hb2⟩
  obtain ⟨o2, cap2, rfl, _, _, _, _⟩ := hown.sl fun _ => rfl
  obtain ⟨vb, rfl, hvb1, hvb2⟩ := hown.pos (by have := Hok.out.vlo; exact this)
  have hz1 : w.heap.size < w1.heap.size := lt_of_block Hf1.out
  have f2 := (hb2.block _ hz1).trans Hf1.out
  have rf := frozen_blk f2
  have p0 := cell_blk f2 0
  simp at p0
  have f3 : (w2.setCell ⟨w.heap.size, 0, none⟩ (.slice (some ⟨vb, 0, none⟩) vs.length cap2)).heap[w.heap.size]? = some (.cells #[.slice (some ⟨vb, 0, none⟩) vs.length cap2, .int .i64 so, .int .i64 op, .int .i64 sh, .int .i64 sl, .int .i64 bx, .int .i64 ad, .int .i64 pi, .int .i64 ch, .int .i64 fr, .int .i64 inn, .int .i64 out] 26 (0, 0)) := set_obj f2 0 _
  have hb3 : Below w.heap.size w (w2.setCell ⟨w.heap.size, 0, none⟩ (.slice (some ⟨vb, 0, none⟩) vs.length cap2)) := (Hb1.out.trans (hb2.mono Hb1.out.size)).setCell (Nat.le_refl _) _
  have ho3 : Own 76 3 viewL 0 (w2.setCell ⟨w.heap.size, 0, none⟩ (.slice (some ⟨vb, 0, none⟩) vs.length cap2)) (.slice (some ⟨vb, 0, none⟩) vs.length cap2) vs :=
    (hown.mono (Nat.zero_le _)).keep fun g hg _ => by
      have e : vb = g := by simpa [Value.ownBlock] using hg
      exact Below.heap_setCell _ _ _ _ (by show g ≠ w.heap.size; omega)
  have hv3 : vb < (w2.setCell ⟨w.heap.size, 0, none⟩ (.slice (some ⟨vb, 0, none⟩) vs.length cap2)).heap.size := by simp; exact hvb2
  have Hf3 := Lib.hid f3
  have Hb3 := Lib.hid hb3
  have Ho3 := Lib.hid ho3
  have Hv3 := Lib.hid hv3
  clear f3 hb3 ho3 hv3 f2 hown hb2 q0
  go_upto_region 4 with fail
  generalize hW3 : w2.setCell ⟨w.heap.size, 0, none⟩ (.slice (some ⟨vb, 0, none⟩) vs.length cap2) = W3 at *
  clear hW3 p0 rf
  have kN : ∀ W, Below W3.heap.size W3 W → NewA w.heap.size (.slice (some ⟨vb, 0, none⟩) vs.length cap2) so op sh sl bx ad pi ch fr inn out W3 W := by
    intro W hW
    have f := (hW.block _ (lt_of_block Hf3.out)).trans Hf3.out
    exact ⟨hW, cell_blk f 0, cell_blk f 1, cell_blk f 2, cell_blk f 3, cell_blk f 4, cell_blk f 5, cell_blk f 6, cell_blk f 7, cell_blk f 8, cell_blk f 9, cell_blk f 10, cell_blk f 11⟩
  go_cut [4] from 14 to 22 (fun s4 wx => ∃ mp bt bs bh ta, s4 = .pointer (some ⟨mp, 0, none⟩) ∧ NewP ⟨vs, so, op, sh, sl, bx, ad, pi, ch, fr, inn, out⟩ op.toNat (some ⟨vb, 0, none⟩) cap2 W3 mp bt bs bh ta wx)
  case first =>
    have kND := kN _ (Below.refl _ _).drew
    have hm1 : ∀ W : World, (Instr.makeMap 83 none).run Try.prog W = .ok (.map (some W.heap.size)) (W.alloc (.map #[] 0)) := fun W => rfl
    have hm2 : ∀ W : World, (Instr.makeMap 84 none).run Try.prog W = .ok (.map (some W.heap.size)) (W.alloc (.map #[] 0)) := fun W => rfl
    have hm3 : ∀ W : World, (Instr.makeMap 85 none).run Try.prog W = .ok (.map (some W.heap.size)) (W.alloc (.map #[] 0)) := fun W => rfl
    have hms := fun W => (Hmo.out W).1
    go_region_held3 (fun W => NewA w.heap.size (.slice (some ⟨vb, 0, none⟩) vs.length cap2) so op sh sl bx ad pi ch fr inn out W3 W) (first | exact kND | assumption | exact kN _ (Below.alloc (And.left (by assumption)) (Below.size (And.left (by assumption))) _)) (fail)
    all_goals (
      refine meet_end3 (by assumption) ?_
      go_step
      (repeat apply Exists.intro)
      refine ⟨?_, rfl⟩
      refine ⟨_, _, _, _, _, rfl, ⟨blk_at (by simp), ?_, ?_, ?_, ?_, ⟨by omega, by omega, by omega⟩, ⟨by omega, by omega, by omega, by omega, by omega⟩, ?_⟩⟩
      · refine drew_blk ?_
        repeat (first | (refine blk_at ?_; simp; done) | (rw [blk_old (by simp; try omega)]))
      · refine drew_blk ?_
        repeat (first | (refine blk_at ?_; simp; done) | (rw [blk_old (by simp; try omega)]))
      · refine drew_blk ?_
        repeat (first | (refine blk_at ?_; simp; done) | (rw [blk_old (by simp; try omega)]))
      · refine own_drew ?_
        repeat (first | (refine told_at (op := op) (mo := 0) (Hmo.out _).2 _ ?_; simp; done) | refine Own.alloc ?_ _)
      · refine Below.drew ?_
        repeat (first | exact Below.refl _ _ | refine below_up ?_ _))
  case rest =>
    obtain ⟨mp, bt, bs, bh, ta, rfl, hN⟩ := hcut
    have hP := hN.parts rfl (Ho3.out.below hN.bel) Hv3.out
    have hbc := Hb3.out.trans (hN.bel.mono Hb3.out.size)
    have hbx := (hN.bel.block _ (lt_of_block Hf3.out)).trans Hf3.out
    have hge := hN.ge
    have hw3 : w.heap.size < W3.heap.size := lt_of_block Hf3.out
    have HP := Lib.hid hP
    have Hbc := Lib.hid hbc
    have Hbx := Lib.hid hbx
    have q2 := cell_blk hbx 2
    simp at q2
    clear hP hbc hbx hN kN
    have hop := Hok.out.op
    have hz3 := Hbc.out.size
    have hmp9 : w.heap.size ≤ mp := by omega
    have hv0 : w.heap.size < vb := by omega
    have hlab : ∀ g, labN mp bt bs bh ta vb g ≠ .no → w.heap.size < g := by
      intro g hg
      rcases labN_no hg with rfl | rfl | rfl | rfl | rfl | rfl <;> omega
    have Hlab := Lib.hid hlab
    clear hlab hge hw3 Hb3 Ho3 Hf3 hv0
    go_wp2_with fail
    go_loopg [25] op.toNat (fun g s25 wr => ∃ (j : Nat) (B : MB), j + g = op.toNat ∧ s25 = .int .i64 j ∧ Parts wr B (Mst.newJ ⟨vs, so, op, sh, sl, bx, ad, pi, ch, fr, inn, out⟩ j) ∧ B.mp = mp ∧ (∀ g, B.lab g ≠ .no → w.heap.size < g) ∧
      wr.heap[w.heap.size]? = some (.cells #[.slice (some ⟨vb, 0, none⟩) vs.length cap2, .int .i64 so, .int .i64 op, .int .i64 sh, .int .i64 sl, .int .i64 bx, .int .i64 ad, .int .i64 pi, .int .i64 ch, .int .i64 fr, .int .i64 inn, .int .i64 out] 26 (0, 0)) ∧ Below w.heap.size w wr)
    case atStart => exact ⟨0, _, by omega, rfl, HP.out, rfl, Hlab.out, Hbx.out, Hbc.out⟩
    case round =>
      obtain ⟨j, B, hj, rfl, hP, rfl, hlb, hbx, hb⟩ := hrel
      have Hj := Lib.hid hj
      have HPj := Lib.hid hP
      have Hlb := Lib.hid hlb
      have Hbj := Lib.hid hb
      have hbxl := lt_of_block hbx
      have d1 := cell_blk hbx 1
      simp at d1
      have Hbxj := Lib.hid hbx
      clear hj hP hlb hb hbx q2
      by_cases hlt : (j : Int) < op
      · go_wp2_with fail
        refine (Hmk.out wr).mono ?_
        rintro e w4 ⟨rfl, hmk4, hb4⟩
        have hP4 := HPj.out.below hb4
        have hmsl : (Mst.newJ ⟨vs, so, op, sh, sl, bx, ad, pi, ch, fr, inn, out⟩ j).ms.length = j := List.length_replicate
        have hm4 := hP4.obj.obj
        rw [hmsl] at hm4
        have htl : (Mst.newJ ⟨vs, so, op, sh, sl, bx, ad, pi, ch, fr, inn, out⟩ j).told.length = op.toNat := List.length_replicate
        rw [htl] at hm4
        have c13 := cell_blk hm4 13
        simp at c13
        have hown4 := hP4.marks.own
        rw [hmsl] at hown4
        have hlm := hP4.marks.len
        rw [hmsl] at hlm
        have hoL := hP4.marks.lb
        rw [hmsl] at hoL
        have hownA := hown4.alloc (.cells #[.pointer (some ⟨wr.heap.size + 1, 0, none⟩)] 61)
        have h9 := sl_new (sz := 1) (enc := ptrL) ((wr.heap.size + 1, wr.heap.size) : Nat × Nat) w4 61 (cs := #[.pointer (some ⟨wr.heap.size + 1, 0, none⟩)]) rfl
        have hz4 := hb4.size
        have HP4 := Lib.hid hP4
        have HownA := Lib.hid hownA
        have Hm4 := Lib.hid hm4
        have Hmk4 := Lib.hid hmk4
        have Hb4 := Lib.hid hb4
        have HoL := Lib.hid hoL
        have Hlm := Lib.hid hlm
        have H9 := Lib.hid h9
        clear hP4 hownA hm4 hmk4 hb4 hown4 hmsl htl hoL hlm h9
        go_wp2_with (at_builtin; (refine wpList_app3 st_ptr rfl _ _ rfl ptrL (fun _ => rfl) cells1_ptr 0 _ B.mks rfl HownA.out w4.heap.size 0 1 1 [(wr.heap.size + 1, wr.heap.size)] rfl rfl H9.out ?c2 ?c3 ?c4 ?_))
        case c2 => have := Hlm.out; simp; have := Hok.out.op; omega
        case c3 => decide
        case c4 => simp
        intro v' w5 hown' hgr hob
        obtain ⟨o5, cap5, rfl, _, _, _, _⟩ := hown'.sl (fun _ => rfl)
        have hl5 : (B.mks ++ [(wr.heap.size + 1, wr.heap.size)]).length = j + 1 := by rw [List.length_append, Hlm.out]; rfl
        rw [hl5] at hown' hob ⊢
        have hmk4 := Hmk4.out.lt
        have hmpl : B.mp < wr.heap.size := HPj.out.lt _ (by rw [HPj.out.obj.lb]; simp)
        have hownlt : ∀ g, some g = (Value.slice B.ma j B.mcap).ownBlock → B.lab g = .marks ∧ g < wr.heap.size := fun g e => ⟨HoL.out g e.symm, HPj.out.lt g (by rw [HoL.out g e.symm]; simp)⟩
        have hmpn : some B.mp ≠ (Value.slice B.ma j B.mcap).ownBlock := fun e => by
          have h1 := (hownlt _ e).1
          rw [HPj.out.obj.lb] at h1
          cases h1
        have hg5 : ∀ g, g < w4.heap.size → some g ≠ (Value.slice B.ma j B.mcap).ownBlock → w5.heap[g]? = w4.heap[g]? := fun g hg hn => (hgr.block g (by simp; omega) hn).trans (blk_old hg)
        have hm5 := (hg5 B.mp (by omega) hmpn).trans Hm4.out
        have rf5 := frozen_blk hm5
        have c135 := cell_blk hm5 13
        simp at c135
        have hb5 : Below w.heap.size w w5 := ((Hbj.out.trans (Hb4.out.mono Hbj.out.size)).alloc (by omega) _).grown hgr (by simp; omega) (fun k hk => by have := Hlb.out k (by rw [(hownlt k hk.symm).1]; simp); omega)
        have hz5 : w4.heap.size + 1 ≤ w5.heap.size := by have := hgr.size; simpa using this
        have Hg5 := Lib.hid hg5
        have Hm5 := Lib.hid hm5
        have Hown5 := Lib.hid hown'
        have Hob5 := Lib.hid hob
        have Hb5 := Lib.hid hb5
        have Hownlt := Lib.hid hownlt
        clear hg5 hm5 hown' hob hb5 hownlt hgr hl5
        go_wp2_with fail
        go_roundg (gk - 1)
        case measure => have := Hj.out; omega
        case rel =>
          have hkf : ∀ g, g < w4.heap.size → g ≠ B.mp → some g ≠ (Value.slice B.ma j B.mcap).ownBlock → (w5.setCell ⟨B.mp, 13, none⟩ (.slice o5 (j + 1) cap5)).heap[g]? = w4.heap[g]? := fun g hg hn hn2 => (Below.heap_setCell _ _ _ _ hn).trans (Hg5.out g hg hn2)
          have hno : ∀ g, wr.heap.size ≤ g → B.lab g = .no := fun g hg => by
            refine Decidable.byContradiction fun hn => ?_
            have := HPj.out.lt g hn
            omega
          have hnow : ∀ g, wr.heap.size ≤ g → some g ≠ (Value.slice B.ma j B.mcap).ownBlock := fun g hg e => by have := (Hownlt.out g e).2; omega
          have hlbm : ∀ g, labG B.lab j (wr.heap.size + 1) wr.heap.size (.slice o5 (j + 1) cap5) g ≠ .no → w.heap.size < g := by
            intro g hg
            by_cases e1 : g = wr.heap.size + 1
            · omega
            · by_cases e2 : g = wr.heap.size
              · omega
              · by_cases e3 : (Value.slice o5 (j + 1) cap5).ownBlock = some g
                · rcases Hob5.out with h5 | h5
                  · rw [e3] at h5
                    exact Hlb.out g (by rw [(Hownlt.out g h5).1]; simp)
                  · rw [e3] at h5
                    have : g = w4.heap.size + 1 := by simpa using h5
                    omega
                · refine Hlb.out g (fun e => hg ?_)
                  unfold labG
                  rw [if_neg e1, if_neg e2, if_neg e3]
                  exact e
          refine ⟨j + 1, { B with ma := o5, mcap := cap5, mks := B.mks ++ [(wr.heap.size + 1, wr.heap.size)], lab := labG B.lab j (wr.heap.size + 1) wr.heap.size (.slice o5 (j + 1) cap5) }, by have := Hj.out; omega, by go_num, ?_, rfl, hlbm, ?_, ?_⟩
          · refine HP4.out.grow (wr.heap.size + 1) wr.heap.size (hno _ (by omega)) (hno _ (by omega)) (by omega) (Hmk4.out.keep (hkf _ hmk4.1 (by omega) (hnow _ (by omega))) (hkf _ hmk4.2 (by omega) (hnow _ (by omega)))) o5 cap5 ?_ ?_ (set_obj Hm5.out 13 _) ?_ ?_
            · refine Hown5.out.keep fun g hg _ => Below.heap_setCell _ _ _ _ ?_
              rcases Hob5.out with h5 | h5
              · rw [hg] at h5
                exact fun e => hmpn (by have e' : g = B.mp := e; rw [← e']; exact h5)
              · rw [hg] at h5
                have : g = w4.heap.size + 1 := by simpa using h5
                show g ≠ B.mp
                omega
            · rcases Hob5.out with h5 | h5
              · exact .inl h5
              · refine .inr ⟨w4.heap.size + 1, by simpa using h5, hno _ (by omega), by omega, by omega⟩
            · exact fun g h1 h2 h3 => hkf g (HP4.out.lt g h1) (fun e => h2 (by rw [e]; exact HP4.out.obj.lb)) (fun e => h3 (Hownlt.out g e).1)
            · have : (w5.setCell ⟨B.mp, 13, none⟩ (.slice o5 (j + 1) cap5)).heap.size = w5.heap.size := by simp
              omega
          · refine (hkf w.heap.size (by omega) (fun e => by have := Hlb.out B.mp (by rw [HPj.out.obj.lb]; simp); omega) (fun e => by have := Hlb.out w.heap.size (by rw [(Hownlt.out _ e).1]; simp); omega)).trans ((Hb4.out.block _ hbxl).trans Hbxj.out)
          · exact Hb5.out.setCell (by show w.heap.size ≤ B.mp; omega) _
      · have hjo : j = op.toNat := by have := Hj.out; omega
        have hP9 := HPj.out
        rw [hjo] at hP9
        have HP9 := Lib.hid hP9
        clear hP9
        go_wp2_with fail
        go_ret2
        exact ⟨B, rfl, HP9.out.model (Mst.new_inv Hok.out), Hbj.out, fun g hg => Nat.le_of_lt (Hlb.out g hg)⟩
end Go.Proofs.Ytaicecnfodhlcaa
