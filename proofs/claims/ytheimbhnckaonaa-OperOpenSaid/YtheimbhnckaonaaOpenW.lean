/- The walk of the law OperOpen. -/
import Derived.Test.YtheimbhnckaonaaOpenP
set_option linter.unusedVariables false
set_option linter.unusedSimpArgs false
namespace Go.Proofs.Ytheimbhnckaonaa
open Go.RowKit

set_option maxRecDepth 100000 in
set_option maxHeartbeats 4000000 in
theorem open_bad (A : Option Addr) (cap : Nat) (vs : List View) (n : Int) (s1 : Value) (w : World) (hs : Sl 3 viewL w A vs) (he : newE vs n ≠ 0) :
    Calls Try.prog 8 #[.slice A vs.length cap, .int .i64 n, s1] w fun e w' => e = .returned (.bool true) ∧ Below w.heap.size w w' := by
  have hk := fun W => known_any W
  have hn1 := fun a c W hs => new_bad a c vs n W hs he
  have her : (newE vs n != 0) = true := by simpa using he
  generalize newE vs n = er at *
  go_enter Try.func8, Try.ntmps8
  go_wp2_with fail
  refine (hk _).mono ?_
  rintro e w0 ⟨rfl, hb0⟩
  have hs0 := hs.below hb0
  go_wp2_with fail
  refine (hn1 _ _ _ hs0).mono ?_
  rintro e w1 ⟨rfl, hb1⟩
  have hz0 := hb0.size
  go_wp2_with fail
  go_ret
  exact ⟨rfl, hb0.trans (hb1.mono (by omega))⟩

set_option maxRecDepth 100000 in
set_option maxHeartbeats 16000000 in
theorem open_ok (A : Option Addr) (cap : Nat) (vs : List View) (n : Int) (S : Option Addr) (scap : Nat) (sts : List St) (w : World) (hs : Sl 3 viewL w A vs) (he : newE vs n = 0) (hS : Sl 6 stL w S sts) (hok : ∀ s ∈ sts, StOk w s) :
    Calls Try.prog 8 #[.slice A vs.length cap, .int .i64 n, .slice S sts.length scap] w fun e w' => e = .returned (.bool true) ∧ Below w.heap.size w w' := by
  have hk := fun W => known_any W
  obtain ⟨q1, q2, q3, q4, q5⟩ := newE_ok he
  have hn1 := fun a c W hs => new_ok a c vs n W hs q1 q2 q3 q4 q5
  have hvok : ∀ v ∈ vs, v.ok = true := List.all_eq_true.1 q3
  have Hvok := Lib.hid hvok
  clear q1 q2 q3 q4 q5 he hvok
  go_enter Try.func8, Try.ntmps8
  go_wp2_with fail
  refine (hk _).mono ?_
  rintro e w0 ⟨rfl, hb0⟩
  have hz0 := hb0.size
  go_wp2_with fail
  refine (hn1 _ _ _ (hs.below hb0)).mono ?_
  rintro e wN ⟨b, rfl, hop1, hb1, a1, a2, a3, a4⟩
  have hzN := hb1.size
  have hbN : Below w.heap.size w wN := hb0.trans (hb1.mono (by omega))
  have hltN := hop1.lt
  have HOP := Lib.hid hop1
  have HavN := Lib.hid hop1.under
  have HInv := Lib.hid (show Inv ⟨vs, List.replicate n.toNat noMark, []⟩ from fun c hc => by cases hc)
  have nb : w.heap.size ≤ b.bl ∧ w.heap.size ≤ b.br := ⟨by omega, by omega⟩
  clear hk hn1 hop1 hb0 hb1 a1 a2 a3 a4
  go_wp2_with fail
  go_loopg [9, 10] (min sts.length 150) (fun q gv i wr => ∃ (j : Nat) (O : Op14) (G : List Cell), j + q = min sts.length 150 ∧ i = .int .i64 j ∧ IsOper wr b O ∧ O.vs = vs ∧ Inv O ∧ O.live.length ≤ 300 * j ∧ Own 51 3 cellL wN.heap.size wr gv G ∧ (∀ c ∈ G, shutC O c = true) ∧ G.length ≤ 100000 ∧ Below w.heap.size w wr ∧ wN.heap.size ≤ wr.heap.size)
  case atStart => exact ⟨0, _, [], by omega, rfl, HOP.out, rfl, HInv.out, by simp, Own.nil _ _ _ _ _, (fun c hc => by cases hc), by simp, hbN, Nat.le_refl _⟩
  case round =>
    obtain ⟨j, O, G, hj, rfl, hop, hvs, hinv, hlO, hG, hGs, hGl, hb, hzw⟩ := hrel
    have Hj := Lib.hid hj
    have HOP2 := Lib.hid hop
    have HInv2 := Lib.hid hinv
    have HGs := Lib.hid hGs
    have hzr := hb.size
    have hj150 : j ≤ 150 := by omega
    clear hj hop hinv hGs HOP HInv hbN
    obtain ⟨og, gcap, rfl, _, hsg, _, _⟩ := hG.sl (fun _ => rfl)
    have HG := Lib.hid hG
    clear hG
    by_cases hlt : j < min sts.length 150
    · have h7 : j < sts.length := by omega
      have h8 : (j : Int) < 150 := by omega
      have d1 : (j : Int) < (sts.length : Int) := by omega
      obtain ⟨sb, so, rfl, hsb, s6⟩ := hS.six h7
      have hso := hok sts[j] (List.getElem_mem h7)
      generalize sts[j] = s at *
      obtain ⟨x1, x2, x3, x4, x5, x6, x7, x8⟩ := s
      dsimp only at *
      have hlv := live_any b O wr HOP2.out (by omega)
      go_wp2_with fail
      refine hlv.mono ?_
      rintro e w1 ⟨v1, rfl, hx1, hb1⟩
      have hz1 := hb1.size
      obtain ⟨ow, capw, rfl, _, hsw1, _, _⟩ := hx1.sl (fun _ => rfl)
      have HOP3 := Lib.hid (HOP2.out.below hb1)
      have hl1 := operLeast_any b O w1 HOP3.out
      have hbw1 : Below w.heap.size w w1 := hb.trans (hb1.mono hzr)
      have HG1 := Lib.hid (HG.out.below hb1)
      have Hx1 := Lib.hid hx1
      clear hlv hx1 hsw1 hsg
      go_wp2_with fail
      refine hl1.mono ?_
      rintro e w' ⟨rfl, rfl⟩
      obtain ⟨e0, e1, e2, e3, e4, e5⟩ := s6 _ hbw1
      have hd := do_any b O x1 x2 x3 x4 x5 x6 x7 x8 w1 HOP3.out (hso.slB hbw1) hso.cap (by omega)
      unfold stepV at hd
      have F1 := Lib.hid (fun c hc => went_ok (O := O) x1 x2 x3 x4 x5 x8 (c := c) hc)
      have F2 := Lib.hid (fun c hc => was_ok (O := O) x1 x2 x3 x4 x5 x8 (c := c) hc)
      have F3 := Lib.hid (rise_doX HOP2.out.rise x1 x2 x4)
      have hle := doO_least O x1 x2 x3 x4 x5 x8
      have hvs' := doO_vs O x1 x2 x3 x4 x5 x8
      have F5 := Lib.hid (inv_do HInv2.out x1 x2 x3 x4 x5 x8)
      have hXl := doX_len O x1 x2 x4
      have hOl := doO_len O x1 x2 x3 x4 x5 x8 HOP2.out.vhi HOP2.out.vok
      have HGs2 := Lib.hid (fun c hc => shutC_mono hvs' hle (HGs.out c hc))
      clear HGs
      generalize doO O x1 x2 x3 x4 x5 x8 = O2 at *
      generalize doX O x1 x2 x4 = X at *
      rw [hvs] at hvs'
      clear hl1
      go_wp2_with fail
      refine hd.mono ?_
      rintro e w2 ⟨v2, rfl, hx2, ho2, hc2⟩
      have hz2 := hc2.size
      have hltw := HOP2.out.lt
      have hbw2 : Below w.heap.size w w2 := Below.op hbw1 hc2 (Nat.le_refl _) (by simp; omega)
      have HOP4 := Lib.hid ho2
      have Hx2' := Lib.hid (Hx1.out.chgGe hc2 (by simp; omega))
      have HG2 := Lib.hid (HG1.out.chgGe hc2 (by simp; omega))
      obtain ⟨ox, capx, rfl, _, _, _, _⟩ := hx2.sl (fun _ => rfl)
      have HX2 := Lib.hid hx2
      have hlv := live_any b O2 w2 HOP4.out (by omega)
      clear hd hx2 ho2 e0 e1 e2 e3 e4 e5
      go_wp2_with fail
      refine hlv.mono ?_
      rintro e w3 ⟨v3, rfl, hx3, hb3⟩
      have hz3 := hb3.size
      have HOP5 := Lib.hid (HOP4.out.below hb3)
      have hl1 := operLeast_any b O2 w3 HOP5.out
      obtain ⟨on, capn, rfl, _, hsn3, _, _⟩ := hx3.sl (fun _ => rfl)
      have hsx3 := (HX2.out.below hb3).sl0 (fun _ => rfl)
      have hr1 := rises_any on capn O2.live w3 hsn3 (by omega) HOP5.out.rise
      have hng : ¬ leastOf O2.ms < leastOf O.ms := by omega
      have Hx3 := Lib.hid hx3
      have hbw3 : Below w.heap.size w w3 := hbw2.trans (hb3.mono (by omega))
      clear hlv hx3 hsn3
      go_wp2_with fail
      refine hl1.mono ?_
      rintro e w' ⟨rfl, rfl⟩
      go_wp2_with fail
      refine hr1.mono ?_
      rintro e w4 ⟨rfl, hb4⟩
      have hz4 := hb4.size
      have hr2 := rises_any ox capx X w4 (hsx3.below hb4) (by omega) F3.out
      clear hl1 hr1 hng
      go_wp2_with fail
      refine hr2.mono ?_
      rintro e w5 ⟨rfl, hb5⟩
      have hz5 := hb5.size
      have hb35 := hb4.trans (hb5.mono hz4)
      have hbw5 : Below w.heap.size w w5 := hbw3.trans (hb35.mono (by omega))
      have HO5 := Lib.hid (HOP5.out.below hb35)
      have hsw : Sl 3 cellL w5 ow O.live := ((Hx2'.out.below hb3).below hb35).sl0 (fun _ => rfl)
      have hsx : Sl 3 cellL w5 ox X := ((HX2.out.below hb3).below hb35).sl0 (fun _ => rfl)
      have hsn : Sl 3 cellL w5 on O2.live := (Hx3.out.below hb35).sl0 (fun _ => rfl)
      have HG5 := Lib.hid ((HG2.out.below hb3).below hb35)
      have hsg : Sl 3 cellL w5 og G := HG5.out.sl0 (fun _ => rfl)
      have hsv : Sl 3 viewL w5 A vs := hs.below hbw5
      have hz15 : wN.heap.size ≤ w5.heap.size := by omega
      have hzw5 : w.heap.size ≤ w5.heap.size := hbw5.size
      have HhL := Lib.hid (fun W (hW : Below w5.heap.size w5 W) => operLeast_any b O2 W (HO5.out.below hW))
      have HhG := Lib.hid (fun (c : Cell) W (hW : Below w5.heap.size w5 W) => (has_any og gcap G c.v c.k c.s W (hsg.below hW) (by omega)).mono (fun e w' (h : _ ∧ _) => (⟨h.1, hW.trans (h.2.mono hW.size)⟩ : _ ∧ Below w5.heap.size w5 w')))
      have HhX := Lib.hid (fun (c : Cell) W (hW : Below w5.heap.size w5 W) => (has_any ox capx X c.v c.k c.s W (hsx.below hW) (by omega)).mono (fun e w' (h : _ ∧ _) => (⟨h.1, hW.trans (h.2.mono hW.size)⟩ : _ ∧ Below w5.heap.size w5 w')))
      have HhW := Lib.hid (fun (c : Cell) W (hW : Below w5.heap.size w5 W) => (has_any ow capw O.live c.v c.k c.s W (hsw.below hW) (by omega)).mono (fun e w' (h : _ ∧ _) => (⟨h.1, hW.trans (h.2.mono hW.size)⟩ : _ ∧ Below w5.heap.size w5 w')))
      have HhN := Lib.hid (fun (c : Cell) W (hW : Below w5.heap.size w5 W) => (has_any on capn O2.live c.v c.k c.s W (hsn.below hW) (by omega)).mono (fun e w' (h : _ ∧ _) => (⟨h.1, hW.trans (h.2.mono hW.size)⟩ : _ ∧ Below w5.heap.size w5 w')))
      have hbb5 := Below.refl w5.heap.size w5
      clear hr2 hb1 hb3 hb4 hb5 hb35 hc2 hbw1 hbw2 hbw3 hsx3 HOP3 HOP4 HOP5 Hx1 Hx2' HX2 Hx3 HG1 HG2 hb
      go_wp2_with fail
      go_loopg [15] O2.live.length (fun q i wr => ∃ k : Nat, k + q = O2.live.length ∧ i = .int .i64 k ∧ Below w5.heap.size w5 wr)
      case atStart => exact ⟨0, by omega, rfl, hbb5⟩
      case round =>
        obtain ⟨k, hk, rfl, hb⟩ := hrel
        have Hk := Lib.hid hk
        clear hk hbb5
        by_cases hlk : k < O2.live.length
        · as_aux_lemma =>
            obtain ⟨nb', no, rfl, hnb, n0, n1, n2⟩ := hsn.at3 hlk rfl
            have hin := List.getElem_mem hlk
            have hshut := F5.out _ hin
            have hcl := HO5.out.may _ hin
            rw [hvs'] at hcl
            obtain ⟨vi, hvi, hcv, hgd, hs1, hs2⟩ := live_view hcl
            obtain ⟨vb, vo, rfl, hvb, u0, u1, u2⟩ := hsv.at3 hvi rfl
            have hvk := Hvok.out _ (List.getElem_mem hvi)
            unfold shutC at hshut
            rw [hvs', hgd] at hshut
            have hL := HhL.out
            have hC0 := fun W => closed_any vs[vi].size vs[vi].slide vs[vi].late O2.live[k].s (leastOf O2.ms) W hvk (by omega) (by omega)
            rw [show (⟨vs[vi].size, vs[vi].slide, vs[vi].late⟩ : View) = vs[vi] from rfl, hshut] at hC0
            have hC := fun W (hW : Below w5.heap.size w5 W) => (hC0 W).mono (fun e w' (h : _ ∧ _) => (⟨h.1, hW.trans (h.2.mono hW.size)⟩ : _ ∧ Below w5.heap.size w5 w'))
            clear hC0
            have hG1 := HhG.out O2.live[k]
            rw [show (⟨O2.live[k].v, O2.live[k].k, O2.live[k].s⟩ : Cell) = O2.live[k] from rfl, decide_eq_false (fun hm => by have := HGs2.out _ hm; have h9 := F5.out _ hin; rw [this] at h9; cases h9)] at hG1
            have hX1 := HhX.out O2.live[k]
            rw [show (⟨O2.live[k].v, O2.live[k].k, O2.live[k].s⟩ : Cell) = O2.live[k] from rfl, decide_eq_false (fun hm => by have := (F1.out _ hm).2; have h9 := F5.out _ hin; rw [this] at h9; cases h9)] at hX1
            have kp : ∀ W, Below w5.heap.size w5 W → (Below w5.heap.size w5 W ∧ W.cell? ⟨nb', no + k * 3, none⟩ = some (.int .i64 (vi : Int)) ∧ W.cell? ⟨nb', no + k * 3 + 1, none⟩ = some (.string O2.live[k].k) ∧ W.cell? ⟨nb', no + k * 3 + 2, none⟩ = some (.int .i64 O2.live[k].s) ∧ W.cell? ⟨vb, vo + vi * 3, none⟩ = some (.int .i64 vs[vi].size) ∧ W.cell? ⟨vb, vo + vi * 3 + 1, none⟩ = some (.int .i64 vs[vi].slide) ∧ W.cell? ⟨vb, vo + vi * 3 + 2, none⟩ = some (.int .i64 vs[vi].late)) := by
              intro W hW
              have hk1 : ∀ off, W.cell? ⟨nb', off, none⟩ = w5.cell? ⟨nb', off, none⟩ := fun off => hW.cell (p := ⟨nb', off, none⟩) hnb
              have hk2 : ∀ off, W.cell? ⟨vb, off, none⟩ = w5.cell? ⟨vb, off, none⟩ := fun off => hW.cell (p := ⟨vb, off, none⟩) hvb
              rw [hcv] at n0
              exact ⟨hW, (hk1 _).trans n0, (hk1 _).trans n1, (hk1 _).trans n2, (hk2 _).trans u0, (hk2 _).trans u1, (hk2 _).trans u2⟩
            rw [hcv] at hG1 hX1
            have kD := kp _ hb.drew
            have i1 : (vi : Int) < (vs.length : Int) := by omega
            clear n0 n1 n2 u0 u1 u2 hin hshut hcl hgd hvk hcv
            generalize O2.live[k].k = c2 at *
            generalize O2.live[k].s = c3 at *
            generalize vs[vi].size = y1 at *
            generalize vs[vi].slide = y2 at *
            generalize vs[vi].late = y3 at *
            generalize leastOf O2.ms = lm at *
            go_wp2_with fail
            go_region_held3 (fun W => Below w5.heap.size w5 W ∧ W.cell? ⟨nb', no + k * 3, none⟩ = some (.int .i64 (vi : Int)) ∧ W.cell? ⟨nb', no + k * 3 + 1, none⟩ = some (.string c2) ∧ W.cell? ⟨nb', no + k * 3 + 2, none⟩ = some (.int .i64 c3) ∧ W.cell? ⟨vb, vo + vi * 3, none⟩ = some (.int .i64 y1) ∧ W.cell? ⟨vb, vo + vi * 3 + 1, none⟩ = some (.int .i64 y2) ∧ W.cell? ⟨vb, vo + vi * 3 + 2, none⟩ = some (.int .i64 y3)) (first | exact kD | assumption)
              (first
                | (go_at_call 23; refine (hL _ (And.left (by assumption))).mono ?_; rintro e w' ⟨rfl, rfl⟩)
                | (go_at_call 27; refine (hC _ (And.left (by assumption))).mono ?_; rintro e w6 ⟨rfl, hb6⟩; have hk6 := kp _ hb6)
                | (go_at_call 28; with_reducible refine (hG1 _ (And.left (by assumption))).mono ?_; rintro e w7 ⟨rfl, hb7⟩; have hk7 := kp _ hb7)
                | (go_at_call 28; with_reducible refine (hX1 _ (And.left (by assumption))).mono ?_; rintro e w8 ⟨rfl, hb8⟩; have hk8 := kp _ hb8))
            clear hL hC hG1 hX1 kp kD
            go_wp2_with fail
            go_roundg (O2.live.length - (k + 1))
            case measure => have := Hk.out; omega
            case rel => exact ⟨k + 1, by have := Hk.out; omega, by go_num, hb8⟩
        · go_wp2_with fail
          go_loopg [16] X.length (fun q i wr => ∃ k : Nat, k + q = X.length ∧ i = .int .i64 k ∧ Below w5.heap.size w5 wr)
          case atStart => exact ⟨0, by omega, rfl, hb⟩
          case round =>
            clear hlk Hk hb
            obtain ⟨k, hk, rfl, hb⟩ := hrel
            have Hk := Lib.hid hk
            clear hk
            by_cases hlk : k < X.length
            · as_aux_lemma =>
                obtain ⟨nb', no, rfl, hnb, n0, n1, n2⟩ := hsx.at3 hlk rfl
                have hin := List.getElem_mem hlk
                have hin2 := (F1.out _ hin).1
                have hshut := (F1.out _ hin).2
                have hcl := HOP2.out.may _ hin2
                rw [hvs] at hcl
                obtain ⟨vi, hvi, hcv, hgd, hs1, hs2⟩ := live_view hcl
                obtain ⟨vb, vo, rfl, hvb, u0, u1, u2⟩ := hsv.at3 hvi rfl
                have hvk := Hvok.out _ (List.getElem_mem hvi)
                unfold shutC at hshut
                rw [hvs', hgd] at hshut
                have hL := HhL.out
                have hC0 := fun W => closed_any vs[vi].size vs[vi].slide vs[vi].late X[k].s (leastOf O2.ms) W hvk (by omega) (by omega)
                rw [show (⟨vs[vi].size, vs[vi].slide, vs[vi].late⟩ : View) = vs[vi] from rfl, hshut] at hC0
                have hC := fun W (hW : Below w5.heap.size w5 W) => (hC0 W).mono (fun e w' (h : _ ∧ _) => (⟨h.1, hW.trans (h.2.mono hW.size)⟩ : _ ∧ Below w5.heap.size w5 w'))
                clear hC0
                have hW1 := HhW.out X[k]
                rw [show (⟨X[k].v, X[k].k, X[k].s⟩ : Cell) = X[k] from rfl, decide_eq_true hin2] at hW1
                have kp : ∀ W, Below w5.heap.size w5 W → (Below w5.heap.size w5 W ∧ W.cell? ⟨nb', no + k * 3, none⟩ = some (.int .i64 (vi : Int)) ∧ W.cell? ⟨nb', no + k * 3 + 1, none⟩ = some (.string X[k].k) ∧ W.cell? ⟨nb', no + k * 3 + 2, none⟩ = some (.int .i64 X[k].s) ∧ W.cell? ⟨vb, vo + vi * 3, none⟩ = some (.int .i64 vs[vi].size) ∧ W.cell? ⟨vb, vo + vi * 3 + 1, none⟩ = some (.int .i64 vs[vi].slide) ∧ W.cell? ⟨vb, vo + vi * 3 + 2, none⟩ = some (.int .i64 vs[vi].late)) := by
                  intro W hW
                  have hk1 : ∀ off, W.cell? ⟨nb', off, none⟩ = w5.cell? ⟨nb', off, none⟩ := fun off => hW.cell (p := ⟨nb', off, none⟩) hnb
                  have hk2 : ∀ off, W.cell? ⟨vb, off, none⟩ = w5.cell? ⟨vb, off, none⟩ := fun off => hW.cell (p := ⟨vb, off, none⟩) hvb
                  rw [hcv] at n0
                  exact ⟨hW, (hk1 _).trans n0, (hk1 _).trans n1, (hk1 _).trans n2, (hk2 _).trans u0, (hk2 _).trans u1, (hk2 _).trans u2⟩
                rw [hcv] at hW1
                have kD := kp _ hb.drew
                have i1 : (vi : Int) < (vs.length : Int) := by omega
                clear n0 n1 n2 u0 u1 u2 hin hin2 hshut hcl hgd hvk hcv
                generalize X[k].k = c2 at *
                generalize X[k].s = c3 at *
                generalize vs[vi].size = y1 at *
                generalize vs[vi].slide = y2 at *
                generalize vs[vi].late = y3 at *
                generalize leastOf O2.ms = lm at *
                go_wp2_with fail
                go_region_held3 (fun W => Below w5.heap.size w5 W ∧ W.cell? ⟨nb', no + k * 3, none⟩ = some (.int .i64 (vi : Int)) ∧ W.cell? ⟨nb', no + k * 3 + 1, none⟩ = some (.string c2) ∧ W.cell? ⟨nb', no + k * 3 + 2, none⟩ = some (.int .i64 c3) ∧ W.cell? ⟨vb, vo + vi * 3, none⟩ = some (.int .i64 y1) ∧ W.cell? ⟨vb, vo + vi * 3 + 1, none⟩ = some (.int .i64 y2) ∧ W.cell? ⟨vb, vo + vi * 3 + 2, none⟩ = some (.int .i64 y3)) (first | exact kD | assumption)
                  (first
                    | (go_at_call 23; refine (hL _ (And.left (by assumption))).mono ?_; rintro e w' ⟨rfl, rfl⟩)
                    | (go_at_call 27; refine (hC _ (And.left (by assumption))).mono ?_; rintro e w6 ⟨rfl, hb8⟩; have hk6 := kp _ hb8)
                    | (go_at_call 28; with_reducible refine (hW1 _ (And.left (by assumption))).mono ?_; rintro e w7 ⟨rfl, hb7⟩; have hk7 := kp _ hb7))
                clear hL hC hW1 kp kD
                go_wp2_with fail
                go_roundg (X.length - (k + 1))
                case measure => have := Hk.out; omega
                case rel => exact ⟨k + 1, by have := Hk.out; omega, by go_num, hb8⟩
            · go_wp2_with fail
              go_loopg [17] O.live.length (fun q i wr => ∃ k : Nat, k + q = O.live.length ∧ i = .int .i64 k ∧ Below w5.heap.size w5 wr)
              case atStart => exact ⟨0, by omega, rfl, hb⟩
              case round =>
                clear hlk Hk hb
                obtain ⟨k, hk, rfl, hb⟩ := hrel
                have Hk := Lib.hid hk
                clear hk
                by_cases hlk : k < O.live.length
                · as_aux_lemma =>
                    obtain ⟨nb', no, rfl, hnb, n0, n1, n2⟩ := hsw.at3 hlk rfl
                    have hF := F2.out _ (List.getElem_mem hlk)
                    have hX1 := HhX.out O.live[k]
                    have hN1 := HhN.out O.live[k]
                    rw [show (⟨O.live[k].v, O.live[k].k, O.live[k].s⟩ : Cell) = O.live[k] from rfl] at hX1 hN1
                    rw [hF] at hN1
                    generalize decide (O.live[k] ∈ X) = tf at *
                    have kp : ∀ W, Below w5.heap.size w5 W → (Below w5.heap.size w5 W ∧ W.cell? ⟨nb', no + k * 3, none⟩ = some (.int .i64 O.live[k].v) ∧ W.cell? ⟨nb', no + k * 3 + 1, none⟩ = some (.string O.live[k].k) ∧ W.cell? ⟨nb', no + k * 3 + 2, none⟩ = some (.int .i64 O.live[k].s)) := by
                      intro W hW
                      have hk1 : ∀ off, W.cell? ⟨nb', off, none⟩ = w5.cell? ⟨nb', off, none⟩ := fun off => hW.cell (p := ⟨nb', off, none⟩) hnb
                      exact ⟨hW, (hk1 _).trans n0, (hk1 _).trans n1, (hk1 _).trans n2⟩
                    have kD := kp _ hb.drew
                    clear n0 n1 n2 hF
                    generalize O.live[k].v = c1 at *
                    generalize O.live[k].k = c2 at *
                    generalize O.live[k].s = c3 at *
                    go_wp2_with fail
                    cases tf
                    all_goals (
                      simp only [Bool.not_true, Bool.not_false] at hN1
                      go_region_held3 (fun W => Below w5.heap.size w5 W ∧ W.cell? ⟨nb', no + k * 3, none⟩ = some (.int .i64 c1) ∧ W.cell? ⟨nb', no + k * 3 + 1, none⟩ = some (.string c2) ∧ W.cell? ⟨nb', no + k * 3 + 2, none⟩ = some (.int .i64 c3)) (first | exact kD | assumption)
                        (first
                          | (go_at_call 28; with_reducible refine (hN1 _ (And.left (by assumption))).mono ?_; rintro e w7 ⟨rfl, hb7⟩; have hk7 := kp _ hb7)
                          | (go_at_call 28; with_reducible refine (hX1 _ (And.left (by assumption))).mono ?_; rintro e w8 ⟨rfl, hb8⟩; have hk8 := kp _ hb8)))
                    all_goals (
                      clear hN1 hX1 kp kD
                      go_wp2_with fail
                      go_roundg (O.live.length - (k + 1))
                      case measure => have := Hk.out; omega
                      case rel => exact ⟨k + 1, by have := Hk.out; omega, by go_num, by first | exact And.left (by assumption)⟩)
                · have HO7 := Lib.hid (HO5.out.below hb)
                  have hz7 := hb.size
                  have hbw7 : Below w.heap.size w _ := hbw5.trans (hb.mono hzw5)
                  have HG7 := Lib.hid (HG5.out.below hb)
                  have hsx7 := hsx.below hb
                  clear Hk hsw hsn hsv HhL HhG HhX HhW HhN HO5 HG5 hsg hsx F2 F3 hb
                  by_cases hg4 : (G.length : Int) < 400
                  · as_aux_lemma =>
                      have hmx : G.length + X.length ≤ 1000000000 := by omega
                      go_wp2_with (at_builtin; refine wpList_app st_cell rfl _ _ rfl cellL (fun _ => rfl) cells1_cell wN.heap.size _ G rfl HG7.out ox X.length capx X rfl ?q1op ?q2op ?q3op ?q4op ?q5op ?_)
                      case q1op => rfl
                      case q2op => exact hsx7
                      case q3op => exact hmx
                      case q4op => decide
                      case q5op => omega
                      intro v9 w9 hown9 hgr9 _
                      have hb79 : Below w.heap.size w w9 := hbw7.grown hgr9 (by omega) (fun g hg => by have := (HG7.out.ge hg).1; omega)
                      have hltN' := HO7.out.lt
                      have HO9 := Lib.hid (HO7.out.keep (w' := w9) hgr9.size (hgr9.block _ hltN'.1 (fun e => by have := (HG7.out.ge e.symm).1; omega)) (hgr9.block _ hltN'.2.1 (fun e => by have := (HG7.out.ge e.symm).1; omega)) (hgr9.block _ hltN'.2.2.1 (fun e => by have := (HG7.out.ge e.symm).1; omega)) (hgr9.block _ hltN'.2.2.2 (fun e => by have := (HG7.out.ge e.symm).1; omega)) (fun g off sp e => hgr9.block _ (HO7.out.under g off sp e) (fun e2 => by have h1 := (HG7.out.ge e2.symm).1; have h2 := HavN.out g off sp e; omega)))
                      have hz9 := hgr9.size
                      have hbw9 := hb79
                      obtain ⟨og3, gcap3, rfl, _, _, _, _⟩ := hown9.sl (fun _ => rfl)
                      have HG9 := Lib.hid hown9
                      have HGs3 := Lib.hid (show ∀ c ∈ G ++ X, shutC O2 c = true from fun c hc => (List.mem_append.1 hc).elim (fun h => HGs2.out c h) (fun h => (F1.out c h).2))
                      have hGl3 : (G ++ X).length ≤ 100000 := by rw [List.length_append]; omega
                      clear hown9 hgr9 HGs2 hb79 hsx7 HG7 F1
                      generalize G ++ X = G3 at *
                      obtain ⟨e0, _, e2, e3, _, _⟩ := s6 _ hbw9
                      by_cases hk1 : x1 = 1
                      · subst hk1
                        have hX : (takeX O2 x3 x4).length ≤ 256 := takeX_len HO9.out.vhi HO9.out.vok x3 x4
                        have ht1 := take_all b O2 x3 x4 w9.drew (HO9.out.below (Below.refl w9.heap.size w9).drew)
                        have Ftk := Lib.hid (fun c hc => take_ok (O := O2) (key := x3) (t := x4) (c := c) hc)
                        have Flt := Lib.hid (take_late (O := O2) (key := x3) (t := x4))
                        have kp : ∀ W, Below w9.heap.size w9 W → (Below w9.heap.size w9 W ∧ W.cell? ⟨sb, so + j * 6 + 2, none⟩ = some (.string x3) ∧ W.cell? ⟨sb, so + j * 6 + 3, none⟩ = some (.int .i64 x4)) := by
                          intro W hW
                          obtain ⟨_, _, g2, g3, _, _⟩ := s6 _ (hbw9.trans (hW.mono hbw9.size))
                          exact ⟨hW, g2, g3⟩
                        have kD := kp _ (Below.refl w9.heap.size w9).drew
                        generalize takeX O2 x3 x4 = T at *
                        generalize takeL O2 x3 x4 = lt at *
                        generalize takeE O2 x3 x4 = er at *
                        clear e2 e3
                        go_wp2_with fail
                        go_region_held3 (fun W => Below w9.heap.size w9 W ∧ W.cell? ⟨sb, so + j * 6 + 2, none⟩ = some (.string x3) ∧ W.cell? ⟨sb, so + j * 6 + 3, none⟩ = some (.int .i64 x4)) (first | exact kD | assumption)
                          (first | (go_at_call 29; refine ht1.mono ?_; rintro e w10 ⟨v10, rfl, hx10, hb10⟩; have hb9 : Below w9.heap.size w9 w10 := ((Below.refl w9.heap.size w9).drew).trans hb10; have hk10 := kp _ hb9))
                        obtain ⟨ol, capl, rfl, _, hsl, _, _⟩ := hx10.sl (fun _ => rfl)
                        have HO10 := Lib.hid (HO9.out.below hb9)
                        have HG10 := Lib.hid (HG9.out.below hb9)
                        have hz10 := hb9.size
                        have hsg := HG10.out.sl0 (fun _ => rfl)
                        have hbw10 : Below w.heap.size w w10 := hbw9.trans (hb9.mono hbw9.size)
                        have HhG := Lib.hid (fun (c : Cell) W (hW : Below w10.heap.size w10 W) => (has_any _ gcap3 G3 c.v c.k c.s W (hsg.below hW) (by omega)).mono (fun e w' (h : _ ∧ _) => (⟨h.1, hW.trans (h.2.mono hW.size)⟩ : _ ∧ Below w10.heap.size w10 w')))
                        have hbb := Below.refl w10.heap.size w10
                        clear ht1 kp kD hx10 e0 hk10 hb10
                        go_wp2_with fail
                        go_loopg [21] T.length (fun q i wr => ∃ k : Nat, k + q = T.length ∧ i = .int .i64 k ∧ Below w10.heap.size w10 wr)
                        case atStart => exact ⟨0, by omega, rfl, hbb⟩
                        case round =>
                          obtain ⟨k, hk, rfl, hb⟩ := hrel
                          have Hk := Lib.hid hk
                          clear hk hbb
                          by_cases hlk : k < T.length
                          · obtain ⟨nb', no, rfl, hnb, n0, n1, n2⟩ := hsl.at3 hlk rfl
                            obtain rfl : lt = false := Flt.out (by omega)
                            have hf := Ftk.out _ (List.getElem_mem hlk)
                            have hG1 := HhG.out T[k]
                            rw [show (⟨T[k].v, T[k].k, T[k].s⟩ : Cell) = T[k] from rfl, decide_eq_false (fun hm => by have := HGs3.out _ hm; rw [hf.2] at this; cases this)] at hG1
                            have kp : ∀ W, Below w10.heap.size w10 W → (Below w10.heap.size w10 W ∧ W.cell? ⟨nb', no + k * 3, none⟩ = some (.int .i64 T[k].v) ∧ W.cell? ⟨nb', no + k * 3 + 1, none⟩ = some (.string x3) ∧ W.cell? ⟨nb', no + k * 3 + 2, none⟩ = some (.int .i64 T[k].s) ∧ W.cell? ⟨sb, so + j * 6 + 2, none⟩ = some (.string x3)) := by
                              intro W hW
                              have hk1 : ∀ off, W.cell? ⟨nb', off, none⟩ = w10.cell? ⟨nb', off, none⟩ := fun off => hW.cell (p := ⟨nb', off, none⟩) hnb
                              rw [hf.1] at n1
                              obtain ⟨_, _, g2, _, _, _⟩ := s6 _ (hbw10.trans (hW.mono hbw10.size))
                              exact ⟨hW, (hk1 _).trans n0, (hk1 _).trans n1, (hk1 _).trans n2, g2⟩
                            rw [hf.1] at hG1
                            have kD := kp _ hb.drew
                            clear n0 n1 n2 hf
                            generalize T[k].v = c1 at *
                            generalize T[k].s = c3 at *
                            go_wp2_with fail
                            go_region_held3 (fun W => Below w10.heap.size w10 W ∧ W.cell? ⟨nb', no + k * 3, none⟩ = some (.int .i64 c1) ∧ W.cell? ⟨nb', no + k * 3 + 1, none⟩ = some (.string x3) ∧ W.cell? ⟨nb', no + k * 3 + 2, none⟩ = some (.int .i64 c3) ∧ W.cell? ⟨sb, so + j * 6 + 2, none⟩ = some (.string x3)) (first | exact kD | assumption)
                              (first | (go_at_call 28; with_reducible refine (hG1 _ (And.left (by assumption))).mono ?_; rintro e w7 ⟨rfl, hb7⟩; have hk7 := kp _ hb7))
                            clear hG1 kp kD
                            go_wp2_with fail
                            go_roundg (T.length - (k + 1))
                            case measure => have := Hk.out; omega
                            case rel => exact ⟨k + 1, by have := Hk.out; omega, by go_num, hb7⟩
                          · have HO11 := Lib.hid (HO10.out.below hb)
                            have HG11 := Lib.hid (HG10.out.below hb)
                            have hz11 := hb.size
                            go_wp2_with fail
                            go_roundg (min sts.length 150 - (j + 1))
                            case measure => have := Hj.out; omega
                            case rel => exact ⟨j + 1, O2, G3, by have := Hj.out; omega, by go_num, HO11.out, hvs', F5.out, by omega, HG11.out, HGs3.out, hGl3, hbw10.trans (hb.mono hbw10.size), by omega⟩
                      · have hk2 : (x1 == 1) = false := by simpa using hk1
                        clear hk1 e2 e3
                        go_wp2_with fail
                        go_roundg (min sts.length 150 - (j + 1))
                        case measure => have := Hj.out; omega
                        case rel => exact ⟨j + 1, O2, G3, by have := Hj.out; omega, by go_num, HO9.out, hvs', F5.out, by omega, HG9.out, HGs3.out, hGl3, hbw9, by omega⟩
                  · as_aux_lemma =>
                      have HO9 := HO7
                      have HG9 := HG7
                      have hbwr := hbw7
                      clear hbw7
                      have HGs3 := HGs2
                      have hGl3 := hGl
                      clear HGs2
                      obtain ⟨e0, _, e2, e3, _, _⟩ := s6 _ hbwr
                      by_cases hk1 : x1 = 1
                      · subst hk1
                        have hX : (takeX O2 x3 x4).length ≤ 256 := takeX_len HO9.out.vhi HO9.out.vok x3 x4
                        have ht1 := take_all b O2 x3 x4 wr.drew (HO9.out.below (Below.refl wr.heap.size wr).drew)
                        have Ftk := Lib.hid (fun c hc => take_ok (O := O2) (key := x3) (t := x4) (c := c) hc)
                        have Flt := Lib.hid (take_late (O := O2) (key := x3) (t := x4))
                        have kp : ∀ W, Below wr.heap.size wr W → (Below wr.heap.size wr W ∧ W.cell? ⟨sb, so + j * 6 + 2, none⟩ = some (.string x3) ∧ W.cell? ⟨sb, so + j * 6 + 3, none⟩ = some (.int .i64 x4)) := by
                          intro W hW
                          obtain ⟨_, _, g2, g3, _, _⟩ := s6 _ (hbwr.trans (hW.mono hbwr.size))
                          exact ⟨hW, g2, g3⟩
                        have kD := kp _ (Below.refl wr.heap.size wr).drew
                        generalize takeX O2 x3 x4 = T at *
                        generalize takeL O2 x3 x4 = lt at *
                        generalize takeE O2 x3 x4 = er at *
                        clear e2 e3
                        go_wp2_with fail
                        go_region_held3 (fun W => Below wr.heap.size wr W ∧ W.cell? ⟨sb, so + j * 6 + 2, none⟩ = some (.string x3) ∧ W.cell? ⟨sb, so + j * 6 + 3, none⟩ = some (.int .i64 x4)) (first | exact kD | assumption)
                          (first | (go_at_call 29; refine ht1.mono ?_; rintro e w10 ⟨v10, rfl, hx10, hb10⟩; have hb9 : Below wr.heap.size wr w10 := ((Below.refl wr.heap.size wr).drew).trans hb10; have hk10 := kp _ hb9))
                        obtain ⟨ol, capl, rfl, _, hsl, _, _⟩ := hx10.sl (fun _ => rfl)
                        have HO10 := Lib.hid (HO9.out.below hb9)
                        have HG10 := Lib.hid (HG9.out.below hb9)
                        have hz10 := hb9.size
                        have hsg := HG10.out.sl0 (fun _ => rfl)
                        have hbw10 : Below w.heap.size w w10 := hbwr.trans (hb9.mono hbwr.size)
                        have HhG := Lib.hid (fun (c : Cell) W (hW : Below w10.heap.size w10 W) => (has_any _ gcap G c.v c.k c.s W (hsg.below hW) (by omega)).mono (fun e w' (h : _ ∧ _) => (⟨h.1, hW.trans (h.2.mono hW.size)⟩ : _ ∧ Below w10.heap.size w10 w')))
                        have hbb := Below.refl w10.heap.size w10
                        clear ht1 kp kD hx10 e0 hk10 hb10
                        go_wp2_with fail
                        go_loopg [21] T.length (fun q i wr => ∃ k : Nat, k + q = T.length ∧ i = .int .i64 k ∧ Below w10.heap.size w10 wr)
                        case atStart => exact ⟨0, by omega, rfl, hbb⟩
                        case round =>
                          obtain ⟨k, hk, rfl, hb⟩ := hrel
                          have Hk := Lib.hid hk
                          clear hk hbb
                          by_cases hlk : k < T.length
                          · obtain ⟨nb', no, rfl, hnb, n0, n1, n2⟩ := hsl.at3 hlk rfl
                            obtain rfl : lt = false := Flt.out (by omega)
                            have hf := Ftk.out _ (List.getElem_mem hlk)
                            have hG1 := HhG.out T[k]
                            rw [show (⟨T[k].v, T[k].k, T[k].s⟩ : Cell) = T[k] from rfl, decide_eq_false (fun hm => by have := HGs3.out _ hm; rw [hf.2] at this; cases this)] at hG1
                            have kp : ∀ W, Below w10.heap.size w10 W → (Below w10.heap.size w10 W ∧ W.cell? ⟨nb', no + k * 3, none⟩ = some (.int .i64 T[k].v) ∧ W.cell? ⟨nb', no + k * 3 + 1, none⟩ = some (.string x3) ∧ W.cell? ⟨nb', no + k * 3 + 2, none⟩ = some (.int .i64 T[k].s) ∧ W.cell? ⟨sb, so + j * 6 + 2, none⟩ = some (.string x3)) := by
                              intro W hW
                              have hk1 : ∀ off, W.cell? ⟨nb', off, none⟩ = w10.cell? ⟨nb', off, none⟩ := fun off => hW.cell (p := ⟨nb', off, none⟩) hnb
                              rw [hf.1] at n1
                              obtain ⟨_, _, g2, _, _, _⟩ := s6 _ (hbw10.trans (hW.mono hbw10.size))
                              exact ⟨hW, (hk1 _).trans n0, (hk1 _).trans n1, (hk1 _).trans n2, g2⟩
                            rw [hf.1] at hG1
                            have kD := kp _ hb.drew
                            clear n0 n1 n2 hf
                            generalize T[k].v = c1 at *
                            generalize T[k].s = c3 at *
                            go_wp2_with fail
                            go_region_held3 (fun W => Below w10.heap.size w10 W ∧ W.cell? ⟨nb', no + k * 3, none⟩ = some (.int .i64 c1) ∧ W.cell? ⟨nb', no + k * 3 + 1, none⟩ = some (.string x3) ∧ W.cell? ⟨nb', no + k * 3 + 2, none⟩ = some (.int .i64 c3) ∧ W.cell? ⟨sb, so + j * 6 + 2, none⟩ = some (.string x3)) (first | exact kD | assumption)
                              (first | (go_at_call 28; with_reducible refine (hG1 _ (And.left (by assumption))).mono ?_; rintro e w7 ⟨rfl, hb7⟩; have hk7 := kp _ hb7))
                            clear hG1 kp kD
                            go_wp2_with fail
                            go_roundg (T.length - (k + 1))
                            case measure => have := Hk.out; omega
                            case rel => exact ⟨k + 1, by have := Hk.out; omega, by go_num, hb7⟩
                          · have HO11 := Lib.hid (HO10.out.below hb)
                            have HG11 := Lib.hid (HG10.out.below hb)
                            have hz11 := hb.size
                            go_wp2_with fail
                            go_roundg (min sts.length 150 - (j + 1))
                            case measure => have := Hj.out; omega
                            case rel => exact ⟨j + 1, O2, G, by have := Hj.out; omega, by go_num, HO11.out, hvs', F5.out, by omega, HG11.out, HGs3.out, hGl3, hbw10.trans (hb.mono hbw10.size), by omega⟩
                      · have hk2 : (x1 == 1) = false := by simpa using hk1
                        clear hk1 e2 e3
                        go_wp2_with fail
                        go_roundg (min sts.length 150 - (j + 1))
                        case measure => have := Hj.out; omega
                        case rel => exact ⟨j + 1, O2, G, by have := Hj.out; omega, by go_num, HO9.out, hvs', F5.out, by omega, HG9.out, HGs3.out, hGl3, hbwr, by omega⟩
    · have hjm : ¬ ((j : Int) < (sts.length : Int) ∧ (j : Int) < 150) := by omega
      by_cases h7 : (j : Int) < (sts.length : Int)
      · have h8 : ¬ (j : Int) < 150 := by omega
        go_wp2_with fail
        go_ret
        exact ⟨rfl, hb⟩
      · go_wp2_with fail
        go_ret
        exact ⟨rfl, hb⟩

/-- THE LAW OperOpen, whatever its arguments. -/
theorem lawOpen_any (A : Option Addr) (cap : Nat) (vs : List View) (n : Int) (S : Option Addr) (scap : Nat) (sts : List St) (w : World) (hs : Sl 3 viewL w A vs) (hu : Under w.heap.size A) (hn : (Lit.int .i64 n).wf = true) (hS : Sl 6 stL w S sts) (hok : ∀ s ∈ sts, StOk w s) :
    Calls Try.prog 8 #[.slice A vs.length cap, .int .i64 n, .slice S sts.length scap] w fun e w' => e = .returned (.bool true) ∧ Below w.heap.size w w' := by
  by_cases he : newE vs n = 0
  · exact open_ok A cap vs n S scap sts w hs he hS hok
  · exact open_bad A cap vs n _ w hs he
end Go.Proofs.Ytheimbhnckaonaa
