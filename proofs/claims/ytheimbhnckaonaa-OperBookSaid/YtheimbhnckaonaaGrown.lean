/- The contract of GrownCells: slices that are the caller's own are written full and grown; none is seen through another. -/
import Derived.Test.YtheimbhnckaonaaGrow
set_option linter.unusedVariables false
set_option linter.unusedSimpArgs false
namespace Go.Proofs.Ytheimbhnckaonaa
open Go.RowKit

theorem Sl.at_slice {w : World} {a : Option Addr} {xs : List Slc} (h : Sl 1 sliceL w a xs) {i : Nat} (hi : i < xs.length) : ∃ b off, a = some ⟨b, off, none⟩ ∧ b < w.heap.size ∧ w.cell? ⟨b, off + i, none⟩ = some xs[i].v := by
  obtain ⟨b, off, e, hlt, hc⟩ := h.at1 hi rfl
  exact ⟨b, off, e, hlt, by simpa using hc⟩
theorem st_slices : SlT Try.prog 66 35 1 24 := SlT.mk' (z := .slice none 0 0) Try.underlying66 (by decide) (by kernel_rfl) rfl

/-- What is written so far: the slices ahead of the j-th whole, of it q cells. -/
def gf (f : Nat → List Cell) (j q : Nat) (p : Nat) : List Cell := if p < j then told p (f p).length else if p = j then told j q ++ (f j).drop q else f p

theorem gf_start (f : Nat → List Cell) : gf f 0 0 = f := by
  funext p
  unfold gf
  by_cases h : p = 0 <;> simp [h, told]
theorem gf_end (f : Nat → List Cell) (j : Nat) : gf f j (f j).length = gf f (j + 1) 0 := by
  funext p
  unfold gf
  by_cases h : p < j
  · simp [h, Nat.lt_succ_of_lt h]
  · by_cases h2 : p = j
    · subst h2; simp
    · have h3 : ¬ p < j + 1 := by omega
      by_cases h4 : p = j + 1
      · subst h4; simp [told, h]
      · simp [h, h2, h3, h4]
theorem gf_len (f : Nat → List Cell) (j q : Nat) (h : q ≤ (f j).length) : (gf f j q j).length = (f j).length := by
  unfold gf; simp [told_len]; omega
theorem told_set (f : Nat → List Cell) (j q : Nat) (h : q < (f j).length) : (gf f j q j).set q ⟨j, kTold, q⟩ = gf f j (q + 1) j := by
  unfold gf
  simp only [Nat.lt_irrefl, if_false, if_true]
  rw [List.set_append_right _ _ (by rw [told_len]; exact Nat.le_refl _), told_len, Nat.sub_self, List.drop_eq_getElem_cons h, List.set_cons_zero]
  unfold told
  rw [List.range_succ, List.map_append]
  simp
theorem gf_other (f : Nat → List Cell) (j q p : Nat) (h : p ≠ j) : gf f j (q + 1) p = gf f j q p := by
  unfold gf; simp [h]

set_option maxRecDepth 100000 in
set_option maxHeartbeats 8000000 in
theorem grown_any (A : Option Addr) (cap : Nat) (V : List Slc) (f : Nat → List Cell) (B : Nat) (w : World) (hs : Sl 1 sliceL w A V) (hr : Rws B w V f) (hA : ∀ b off, A = some ⟨b, off, none⟩ → ∀ i (hi : i < V.length), V[i].v.ownBlock ≠ some b)
    (hB : B ≤ w.heap.size) (hN : V.length ≤ 100000) (hn : ∀ i, (f i).length ≤ 100000000) :
    Calls Try.prog 38 #[.slice A V.length cap] w fun e w' => e = .returned (.bool true) ∧ Chg (vblk V) w w' := by
  have HA := Lib.hid hA
  have HS := Lib.hid hs
  have HN := Lib.hid hn
  clear hA hs hn
  go_enter Try.func38, Try.ntmps38
  go_wp2_with fail
  go_loopg [3] V.length (fun g i wr => ∃ j : Nat, j + g = V.length ∧ i = .int .i64 j ∧ Rws B wr V (gf f j 0) ∧ Chg (vblk V) w wr)
  case atStart => exact ⟨0, by omega, rfl, by rw [gf_start]; exact hr, Chg.refl _ _⟩
  case round =>
    obtain ⟨j, hj, rfl, hrw, hch⟩ := hrel
    have Hj := Lib.hid hj
    have Hrw := Lib.hid hrw
    have Hch := Lib.hid hch
    clear hj hrw hch
    by_cases hlt : j < V.length
    · obtain ⟨ab, ao, rfl, hab, h0⟩ := HS.out.at_slice hlt
      have hnb := not_vblk (fun i hi => HA.out ab ao rfl i hi)
      have d0 := (World.cell?_of_block (a := ⟨ab, ao + j, none⟩) (Hch.out.block ab hab hnb)).trans h0
      obtain ⟨o, cj, ej, _, _⟩ := own_addr (Hrw.out.own j hlt) (fun _ => rfl)
      rw [gf_len f j 0 (Nat.zero_le _)] at ej
      rw [ej] at d0
      have Ej := Lib.hid ej
      have hnl := HN.out j
      have habr := Hch.out.size
      have Hnb := Lib.hid hnb
      clear h0 ej hnb
      go_wp2_with fail
      go_loopg [4] (f j).length (fun g k w2 => ∃ q : Nat, q + g = (f j).length ∧ k = .int .i64 q ∧ Rws B w2 V (gf f j q) ∧ Chg (vblk V) wr w2)
      case atStart => exact ⟨0, by omega, rfl, Hrw.out, Chg.refl _ _⟩
      case round =>
        obtain ⟨q, hq, rfl, hrw2, hch2⟩ := hrel
        have Hq := Lib.hid hq
        have Hch2 := Lib.hid hch2
        clear hq hch2
        have d2 := (World.cell?_of_block (a := ⟨ab, ao + j, none⟩) (Hch2.out.block ab (by omega) Hnb.out)).trans d0
        by_cases hq2 : q < (f j).length
        · have hlen := gf_len f j q (Nat.le_of_lt hq2)
          have hown := hrw2.own j hlt
          rw [Ej.out] at hown
          have hown' := hown
          rw [← hlen] at hown'
          obtain ⟨g, rfl, hg1, hg2⟩ := hown'.pos (by omega)
          obtain ⟨⟨u0, e0⟩, ⟨u1, e1⟩, ⟨u2, e2⟩, f0, f1, f2⟩ := hown'.room3 (k := q) (fun _ => rfl) (by omega)
          have hset := hown'.set3 (k := q) (c := ⟨j, kTold, q⟩) (u0 := .int .i64 j) (u1 := .string kTold) (u2 := .int .i64 q) (fun _ => rfl) rfl (by omega) rfl
          rw [told_set f j q hq2, hlen] at hset
          have hgb : V[j].v.ownBlock = some g := by rw [Ej.out]; rfl
          have Hset := Lib.hid hset
          have Hgb := Lib.hid hgb
          have Hrw2 := Lib.hid hrw2
          clear hset hlen hown hown' hgb hrw2
          go_wp2_with fail
          go_roundg ((f j).length - (q + 1))
          case measure => have := Hq.out; omega
          case rel =>
            have hgm : g ∈ vblk V := mem_vblk hlt Hgb.out
            have hc3 : Chg (vblk V) wr (((wr.setCell ⟨g, q * 3, none⟩ (.int .i64 j)).setCell ⟨g, q * 3 + 1, none⟩ (.string kTold)).setCell ⟨g, q * 3 + 2, none⟩ (.int .i64 q)) := ((Chg.set _ hgm _).trans (Chg.set _ hgm _)).trans (Chg.set _ hgm _)
            refine ⟨q + 1, by have := Hq.out; omega, by go_num, ?_, Hch2.out.trans hc3⟩
            refine Hrw2.out.turn hlt (f' := gf f j (q + 1)) ?_ (fun p hp => gf_other f j q p hp) (fun g' hg' hn => ?_)
            · rw [Ej.out]; exact Hset.out
            · have hne : g' ≠ g := fun e => hn (by rw [Hgb.out, e])
              have hc4 : Chg [g] wr (((wr.setCell ⟨g, q * 3, none⟩ (.int .i64 j)).setCell ⟨g, q * 3 + 1, none⟩ (.string kTold)).setCell ⟨g, q * 3 + 2, none⟩ (.int .i64 q)) := ((Chg.set _ (by simp) _).trans (Chg.set _ (by simp) _)).trans (Chg.set _ (by simp) _)
              exact hc4.block g' hg' (by simpa using hne)
        · obtain rfl : q = (f j).length := by have := Hq.out; omega
          rw [gf_end] at hrw2
          have Hrw2 := Lib.hid hrw2
          clear hrw2
          go_wp2_with fail
          go_roundg (V.length - (j + 1))
          case measure => have := Hj.out; omega
          case rel => exact ⟨j + 1, by have := Hj.out; omega, by go_num, Hrw2.out, Hch.out.trans Hch2.out⟩
    · obtain rfl : j = V.length := by have := Hj.out; omega
      clear hr
      have hzr := Hch.out.size
      have hAr : Sl 1 sliceL wr A V := HS.out.chg Hch.out (fun b off e => not_vblk (fun i hi => HA.out b off e i hi))
      have HAr := Lib.hid hAr
      have hrw : Rws B wr V (fun i => told i (f i).length) := by
        refine ⟨fun i hi => ?_, Hrw.out.dis⟩
        have h := Hrw.out.own i hi
        unfold gf at h
        rw [if_pos hi] at h
        exact h
      have Hrw0 := Lib.hid hrw
      clear hrw hAr
      go_wp2_with (at_builtin; refine wpList_app st_slices rfl _ _ rfl sliceL (fun _ => rfl) cells1_slice wr.heap.size _ ([] : List Slc) rfl (Own.nil _ _ _ _ _) A V.length cap V rfl rfl HAr.out ?a1 ?a2 (Nat.le_refl _) ?_)
      case a1 => simp; omega
      case a2 => decide
      intro vm w1 hm hgm _
      obtain ⟨om, capm, rfl, hms, hma⟩ := own_addr hm (fun _ => rfl)
      have hb1 : Below wr.heap.size wr w1 := ⟨hgm.os, hgm.tape, hgm.output, hgm.size, fun k hk => hgm.block k hk (by simp [Value.ownBlock])⟩
      have hg0 : Grw B w.heap.size w1 V V (fun i => (f i).length) (fun _ => 0) := Grw.start (Hrw0.out.keep fun i hi g hg => hb1.block g (Hrw0.out.own i hi |>.ge hg).2)
      have hmo : More B wr.heap.size w w1 V (fun i => (f i).length) (fun _ => 0) om capm V := by
        have hne : ∀ i (hi : i < V.length) a, om = some a → V[i].v.ownBlock ≠ some a.block := by
          intro i hi a ea e
          have h1 := (Hrw0.out.own i hi |>.ge e).2
          have h2 := hma a ea
          rw [ea, h2.1] at hm
          have h3 := (hm.ge (g := a.block) rfl).1
          omega
        exact ⟨hm, hg0, hne, hne, Hch.out.thenB hb1, hzr⟩
      have Hmo := Lib.hid hmo
      have Hma := Lib.hid hma
      have hfl := HN.out
      have Hfl := Lib.hid hfl
      clear hfl
      obtain ⟨n, en⟩ : ∃ n : Nat → Nat, n = fun i => (f i).length := ⟨_, rfl⟩
      have hnn : ∀ i, n i ≤ 100000000 := by rw [en]; exact Hfl.out
      have Hnn := Lib.hid hnn
      rw [← en] at Hmo
      have hbig : V.length ≤ 100000 := hN
      obtain ⟨bm, ebm⟩ : ∃ bm : Nat, bm = wr.heap.size := ⟨_, rfl⟩
      rw [← ebm] at Hmo
      clear hmo hma hg0 hb1 hgm hm hms Hrw0 Hrw HN Hfl en hnn Hch hzr ebm
      go_wp2_with fail
      go_loopg [6] 40 (fun g k w2 => ∃ c : Nat, c + g = 40 ∧ k = .int .i64 c ∧ ∃ U, More B bm w w2 V n (fun _ => c) om capm U)
      case atStart => exact ⟨0, by omega, rfl, V, Hmo.out⟩
      case round =>
        obtain ⟨c, hc, rfl, U, hmo⟩ := hrel
        have Hc := Lib.hid hc
        have Hmo2 := Lib.hid hmo
        clear hc hmo
        by_cases hc40 : c < 40
        · have hci : decide ((c : Int) < 40) = true := by simp; omega
          go_wp2_with fail
          go_loopg [7] V.length (fun g i w3 => ∃ j : Nat, j + g = V.length ∧ i = .int .i64 j ∧ ∃ U, More B bm w w3 V n (cntM c j) om capm U)
          case atStart => exact ⟨0, by omega, rfl, U, by rw [cntM_zero]; exact Hmo2.out⟩
          case round =>
            obtain ⟨j, hj, rfl, U2, hmo3⟩ := hrel
            have Hj2 := Lib.hid hj
            have Hmo3 := Lib.hid hmo3
            have hzw := hmo3.chg.size
            clear hj hmo3
            by_cases hlj : j < V.length
            · have hlen := Hmo3.out.grw.len
              have hu : j < U2.length := by omega
              obtain ⟨M, hM, hM1, hM2⟩ := Own.pos (by have h := Hmo3.out.row; rw [← hlen] at h; exact h) (show 0 < U2.length by omega)
              subst hM
              have hown := Hmo3.out.grw.own j hu
              rw [cntM_at] at hown
              obtain ⟨b9, off9, e9, _, d0⟩ := ((Hmo3.out.row).sl0 fun _ => rfl).at_slice hu
              cases e9
              rw [Nat.zero_add] at d0
              obtain ⟨s, es, esn⟩ := slc_of hown (fun _ => rfl)
              have hln : (told j (n j) ++ mores j c).length = n j + c := by rw [List.length_append, told_len, mores_len]
              have hnj := Hnn.out j
              rw [hln] at esn
              rw [es] at d0
              have hownA := hown.alloc (.cells #[.int .i64 j, .string kMore, .int .i64 c] 51)
              have hstep := fun v' w4 ho hat => More.step Hmo3.out (w4 := w4) hlj hu (.cells #[.int .i64 j, .string kMore, .int .i64 c] 51) (v' := v') ho hat
              rw [es] at hownA hstep
              rw [cntM_succ, cntM_at] at hstep
              have h9 := sl_new (sz := 3) (enc := cellL) (⟨j, kMore, c⟩ : Cell) wr 51 (cs := #[.int .i64 j, .string kMore, .int .i64 c]) rfl
              have HownA := Lib.hid hownA
              have Hstep := Lib.hid hstep
              have Hes := Lib.hid es
              have Hln := Lib.hid hln
              have Hlen := Lib.hid hlen
              obtain ⟨sa, sn, sc⟩ := s
              simp only at esn
              subst esn
              clear hown hownA hstep es hln hlen
              go_wp2_with (at_builtin; refine wpList_app2 st_cell rfl _ _ rfl cellL (fun _ => rfl) cells1_cell B _ (told j (n j) ++ mores j c) rfl HownA.out wr.heap.size 0 1 1 [⟨j, kMore, c⟩] rfl rfl (by decide) h9 ?b1 ?b2 ?b3 ?_)
              case b1 => rw [Hln.out]; simp; omega
              case b2 => decide
              case b3 => simp; omega
              intro v' w4 hown4 hat4
              rw [← mores_succ] at hown4
              obtain ⟨s', rfl, es'⟩ := slc_of hown4 (fun _ => rfl)
              obtain ⟨f1, f2, f3, hmo4⟩ := Hstep.out s' w4 hown4 hat4
              have Hmo4 := Lib.hid hmo4
              clear hown4 hat4 hmo4 Hstep HownA h9 Hmo3 es'
              obtain ⟨ta, tn, tc⟩ := s'
              go_wp2_with fail
              go_roundg (V.length - (j + 1))
              case measure => have := Hj2.out; omega
              case rel => exact ⟨j + 1, by have := Hj2.out; omega, by go_num, _, Hmo4.out⟩
            · obtain rfl : j = V.length := by have := Hj2.out; omega
              have hmo5 := Hmo3.out.congr (c' := fun _ => c + 1) (fun i hi => by simp [cntM, hi])
              have Hmo5 := Lib.hid hmo5
              clear hmo5 Hmo3
              go_wp2_with fail
              go_roundg (40 - (c + 1))
              case measure => have := Hc.out; omega
              case rel => exact ⟨c + 1, by have := Hc.out; omega, by go_num, _, Hmo5.out⟩
        · obtain rfl : c = 40 := by have := Hc.out; omega
          have hz3 := Hmo2.out.chg.size
          obtain ⟨w3, ew3⟩ : ∃ w3 : World, w3 = wr := ⟨_, rfl⟩
          rw [← ew3] at Hmo2 hz3
          have hbl : Below w3.heap.size w3 wr := by rw [ew3]; exact Below.refl _ _
          clear ew3 Hmo
          go_wp2_with fail
          go_loopg [8] V.length (fun g i w4 => ∃ j : Nat, j + g = V.length ∧ i = .int .i64 j ∧ Below w3.heap.size w3 w4)
          case atStart => exact ⟨0, by omega, rfl, hbl⟩
          case round =>
            obtain ⟨j, hj, rfl, hb4⟩ := hrel
            have Hj2 := Lib.hid hj
            clear hj hbl
            by_cases hlj : j < V.length
            · have hlen := Hmo2.out.grw.len
              have hu : j < U.length := by omega
              have hzb := hb4.size
              obtain ⟨M, hM, hM1, hM2⟩ := Own.pos (by have h := Hmo2.out.row; rw [← hlen] at h; exact h) (show 0 < U.length by omega)
              subst hM
              obtain ⟨o1, cp1, e1, hs1, hu1⟩ := Hmo2.out.grw.old j hlj
              obtain ⟨o2, cp2, e2, hs2, hu2⟩ := own_addr (Hmo2.out.grw.own j hu) (fun _ => rfl)
              have hs3 : Sl 1 sliceL w3 A V := HS.out.chg Hmo2.out.chg (fun b off e => not_vblk (fun i hi => HA.out b off e i hi))
              obtain ⟨ab, ao, rfl, hab, d0⟩ := hs3.at_slice hlj
              obtain ⟨b9, off9, e9, _, d1⟩ := ((Hmo2.out.row).sl0 fun _ => rfl).at_slice hu
              cases e9
              rw [Nat.zero_add] at d1
              have hln : (told j (n j) ++ mores j 40).length = n j + 40 := by rw [List.length_append, told_len, mores_len]
              rw [hln] at e2
              rw [e1] at d0
              rw [e2] at d1
              have hnj := Hnn.out j
              have c0 := (hb4.cell (p := ⟨ab, ao + j, none⟩) hab).trans d0
              have c1 := (hb4.cell (p := ⟨M, j, none⟩) hM2).trans d1
              have E1 := Lib.hid e1
              have E2 := Lib.hid e2
              have Hs1 := Lib.hid hs1
              have Hs2 := Lib.hid hs2
              have Hln := Lib.hid hln
              have Hlen := Lib.hid hlen
              clear e1 e2 hs1 hs2 hln hlen hu1 hu2 hs3
              go_wp2_with fail
              go_loopg [10] (n j + 40) (fun g i w5 => ∃ q : Nat, q + g = n j + 40 ∧ i = .int .i64 q ∧ Below w3.heap.size w3 w5)
              case atStart => exact ⟨0, by omega, rfl, hb4⟩
              case round =>
                obtain ⟨q, hq, rfl, hb5⟩ := hrel
                have Hq := Lib.hid hq
                have hzb5 := hb5.size
                have k0 := (hb5.cell (p := ⟨ab, ao + j, none⟩) hab).trans d0
                have k1 := (hb5.cell (p := ⟨M, j, none⟩) hM2).trans d1
                clear hq
                by_cases hqn : q < n j
                · obtain ⟨x1, y1, rfl, hx1, p0, p1, p2⟩ := Hs1.out.at3 (i := q) (by rw [told_len]; exact hqn) (by rw [told_get])
                  obtain ⟨x2, y2, rfl, hx2, r0, r1, r2⟩ := Hs2.out.at3 (i := q) (by rw [Hln.out]; omega) (by rw [List.getElem_append_left (by rw [told_len]; exact hqn), told_get])
                  have p0 := (hb5.cell (p := ⟨x1, _, none⟩) hx1).trans p0
                  have p1 := (hb5.cell (p := ⟨x1, _, none⟩) hx1).trans p1
                  have p2 := (hb5.cell (p := ⟨x1, _, none⟩) hx1).trans p2
                  have r0 := (hb5.cell (p := ⟨x2, _, none⟩) hx2).trans r0
                  have r1 := (hb5.cell (p := ⟨x2, _, none⟩) hx2).trans r1
                  have r2 := (hb5.cell (p := ⟨x2, _, none⟩) hx2).trans r2
                  have hne := fun W => run_neq_cell j ⟨#[116, 111, 108, 100]⟩ q j ⟨#[116, 111, 108, 100]⟩ q W
                  simp only [decide_true, Bool.not_true] at hne
                  have hge : decide ((n j : Int) ≤ (q : Int)) = false := by simp; omega
                  unfold kTold at p1 r1
                  have i1 : (0 : Int) ≤ (q : Int) := by omega
                  have i2 : (q : Int) < (n j : Int) := by omega
                  have i3 : (q : Int) < (n j : Int) + 40 := by omega
                  have i4 : (0 : Int) ≤ (j : Int) := by omega
                  have i5 : (j : Int) < (V.length : Int) := by omega
                  have hbA : Below w3.heap.size w3 (wr.alloc (.cells #[.int .i64 j, .string ⟨#[116, 111, 108, 100]⟩, .int .i64 q] 51)) := hb5.alloc hzb5 _
                  have q0 : (wr.alloc (.cells #[.int .i64 j, .string ⟨#[116, 111, 108, 100]⟩, .int .i64 q] 51)).cell? ⟨wr.heap.size, 0, none⟩ = some (.int .i64 j) := by go_simp
                  have q1 : (wr.alloc (.cells #[.int .i64 j, .string ⟨#[116, 111, 108, 100]⟩, .int .i64 q] 51)).cell? ⟨wr.heap.size, 1, none⟩ = some (.string ⟨#[116, 111, 108, 100]⟩) := by go_simp
                  have q2 : (wr.alloc (.cells #[.int .i64 j, .string ⟨#[116, 111, 108, 100]⟩, .int .i64 q] 51)).cell? ⟨wr.heap.size, 2, none⟩ = some (.int .i64 q) := by go_simp
                  have hold : ∀ p : Addr, p.block < wr.heap.size → (wr.alloc (.cells #[.int .i64 j, .string ⟨#[116, 111, 108, 100]⟩, .int .i64 q] 51)).cell? p = wr.cell? p := fun p hp => World.cell?_of_block (blk_old hp)
                  have k0 := (hold _ (World.block_lt_of_cell? _ _ k0)).trans k0
                  have k1 := (hold _ (World.block_lt_of_cell? _ _ k1)).trans k1
                  have p0 := (hold _ (World.block_lt_of_cell? _ _ p0)).trans p0
                  have p1 := (hold _ (World.block_lt_of_cell? _ _ p1)).trans p1
                  have p2 := (hold _ (World.block_lt_of_cell? _ _ p2)).trans p2
                  have r0 := (hold _ (World.block_lt_of_cell? _ _ r0)).trans r0
                  have r1 := (hold _ (World.block_lt_of_cell? _ _ r1)).trans r1
                  have r2 := (hold _ (World.block_lt_of_cell? _ _ r2)).trans r2
                  clear hold c0 c1
                  go_wp2_with fail
                  generalize wr.alloc (.cells #[.int .i64 j, .string ⟨#[116, 111, 108, 100]⟩, .int .i64 q] 51) = wA at *
                  go_quiet (fail)
                  go_wp2_with fail
                  go_roundg (n j + 40 - (q + 1))
                  case measure => have := Hq.out; omega
                  case rel => exact ⟨q + 1, by have := Hq.out; omega, by go_num, Below.drewN hbA _⟩
                · by_cases hqm : q < n j + 40
                  · have hel : (told j (n j) ++ mores j 40)[q]'(by rw [Hln.out]; omega) = ⟨j, kMore, ((q - n j : Nat) : Int)⟩ := by
                      rw [List.getElem_append_right (by rw [told_len]; omega), mores_get, told_len]
                    obtain ⟨x2, y2, rfl, hx2, r0, r1, r2⟩ := Hs2.out.at3 (i := q) (by rw [Hln.out]; omega) (by rw [hel])
                    have hsub : ((q - n j : Nat) : Int) = (q : Int) - (n j : Int) := by omega
                    rw [hsub] at r2
                    have r0 := (hb5.cell (p := ⟨x2, _, none⟩) hx2).trans r0
                    have r1 := (hb5.cell (p := ⟨x2, _, none⟩) hx2).trans r1
                    have r2 := (hb5.cell (p := ⟨x2, _, none⟩) hx2).trans r2
                    have hne := fun W => run_neq_cell j ⟨#[109, 111, 114, 101]⟩ ((q : Int) - (n j : Int)) j ⟨#[109, 111, 114, 101]⟩ ((q : Int) - (n j : Int)) W
                    simp only [decide_true, Bool.not_true] at hne
                    have hge : decide ((n j : Int) ≤ (q : Int)) = true := by simp; omega
                    have hlt : decide ((q : Int) < (n j : Int)) = false := by simp; omega
                    unfold kMore at r1
                    have i1 : (0 : Int) ≤ (q : Int) := by omega
                    have i3 : (q : Int) < (n j : Int) + 40 := by omega
                    have i4 : (0 : Int) ≤ (j : Int) := by omega
                    have i5 : (j : Int) < (V.length : Int) := by omega
                    have hbA : Below w3.heap.size w3 (wr.alloc (.cells #[.int .i64 j, .string ⟨#[109, 111, 114, 101]⟩, .int .i64 ((q : Int) - (n j : Int))] 51)) := hb5.alloc hzb5 _
                    have q0 : (wr.alloc (.cells #[.int .i64 j, .string ⟨#[109, 111, 114, 101]⟩, .int .i64 ((q : Int) - (n j : Int))] 51)).cell? ⟨wr.heap.size, 0, none⟩ = some (.int .i64 j) := by go_simp
                    have q1 : (wr.alloc (.cells #[.int .i64 j, .string ⟨#[109, 111, 114, 101]⟩, .int .i64 ((q : Int) - (n j : Int))] 51)).cell? ⟨wr.heap.size, 1, none⟩ = some (.string ⟨#[109, 111, 114, 101]⟩) := by go_simp
                    have q2 : (wr.alloc (.cells #[.int .i64 j, .string ⟨#[109, 111, 114, 101]⟩, .int .i64 ((q : Int) - (n j : Int))] 51)).cell? ⟨wr.heap.size, 2, none⟩ = some (.int .i64 ((q : Int) - (n j : Int))) := by go_simp
                    have hold : ∀ p : Addr, p.block < wr.heap.size → (wr.alloc (.cells #[.int .i64 j, .string ⟨#[109, 111, 114, 101]⟩, .int .i64 ((q : Int) - (n j : Int))] 51)).cell? p = wr.cell? p := fun p hp => World.cell?_of_block (blk_old hp)
                    have k0 := (hold _ (World.block_lt_of_cell? _ _ k0)).trans k0
                    have k1 := (hold _ (World.block_lt_of_cell? _ _ k1)).trans k1
                    have r0 := (hold _ (World.block_lt_of_cell? _ _ r0)).trans r0
                    have r1 := (hold _ (World.block_lt_of_cell? _ _ r1)).trans r1
                    have r2 := (hold _ (World.block_lt_of_cell? _ _ r2)).trans r2
                    clear hold c0 c1 hel hsub
                    go_wp2_with fail
                    generalize (wr.alloc (.cells #[.int .i64 j, .string ⟨#[109, 111, 114, 101]⟩, .int .i64 ((q : Int) - (n j : Int))] 51)) = wA at *
                    go_quiet (fail)
                    go_wp2_with fail
                    go_roundg (n j + 40 - (q + 1))
                    case measure => have := Hq.out; omega
                    case rel => exact ⟨q + 1, by have := Hq.out; omega, by go_num, Below.drewN hbA _⟩
                  · obtain rfl : q = n j + 40 := by have := Hq.out; omega
                    go_wp2_with fail
                    go_roundg (V.length - (j + 1))
                    case measure => have := Hj2.out; omega
                    case rel => exact ⟨j + 1, by have := Hj2.out; omega, by go_num, hb5⟩
            · obtain rfl : j = V.length := by have := Hj2.out; omega
              go_wp2_with fail
              go_ret
              exact ⟨rfl, Hmo2.out.chg.thenB hb4⟩
end Go.Proofs.Ytheimbhnckaonaa
