/- The walk of the law OperOwn. -/
import Derived.Test.YtheimbhnckaonaaTrio
import Derived.Test.YtheimbhnckaonaaPlaysB
set_option linter.unusedVariables false
set_option linter.unusedSimpArgs false
namespace Go.Proofs.Ytheimbhnckaonaa
open Go.RowKit

set_option maxRecDepth 100000 in
set_option maxHeartbeats 4000000 in
theorem own_bad (A : Option Addr) (cap : Nat) (vs : List View) (n : Int) (s1 s2 : Value) (w : World) (hs : Sl 3 viewL w A vs) (he : newE vs n ≠ 0) :
    Calls Try.prog 10 #[.slice A vs.length cap, .int .i64 n, s1, s2] w fun e w' => e = .returned (.bool true) ∧ Below w.heap.size w w' := by
  have hk := fun W => known_any W
  have hn1 := fun a c W hs => new_bad a c vs n W hs he
  have her : (newE vs n != 0) = true := by simpa using he
  generalize newE vs n = er at *
  go_enter Try.func10, Try.ntmps10
  go_wp2_with fail
  refine (hk _).mono ?_
  rintro e w0 ⟨rfl, hb0⟩
  have hs0 := hs.below hb0
  go_wp2_with fail
  refine (hn1 _ _ _ hs0).mono ?_
  rintro e w1 ⟨rfl, hb1⟩
  have hs1 := hs0.below hb1
  go_wp2_with fail
  refine (hn1 _ _ _ hs1).mono ?_
  rintro e w2 ⟨rfl, hb2⟩
  have hs2 := hs1.below hb2
  go_wp2_with fail
  refine (hn1 _ _ _ hs2).mono ?_
  rintro e w3 ⟨rfl, hb3⟩
  have hz0 := hb0.size
  have hz1 := hb1.size
  have hz2 := hb2.size
  go_wp2_with fail
  go_ret
  exact ⟨rfl, ((hb0.trans (hb1.mono (by omega))).trans (hb2.mono (by omega))).trans (hb3.mono (by omega))⟩

/-- The three new operators. -/
theorem trio_new {w0 w1 w2 w3 : World} {a b c : OpB} {O : Op14} (h1 : IsOper w1 a O) (k1 : w0.heap.size ≤ a.bl ∧ w0.heap.size ≤ a.br) (hb2 : Below w1.heap.size w1 w2) (h2 : IsOper w2 b O) (k2 : w1.heap.size ≤ b.bp ∧ w1.heap.size ≤ b.bl ∧ w1.heap.size ≤ b.br ∧ ∀ g off sp, b.av = some ⟨g, off, sp⟩ → w1.heap.size ≤ g)
    (hb3 : Below w2.heap.size w2 w3) (h3 : IsOper w3 c O) (k3 : w2.heap.size ≤ c.bp ∧ w2.heap.size ≤ c.bl ∧ w2.heap.size ≤ c.br ∧ ∀ g off sp, c.av = some ⟨g, off, sp⟩ → w2.heap.size ≤ g) (h01 : w0.heap.size ≤ w1.heap.size) : Trio w0.heap.size w3 a b c O O O := by
  have l1 := h1.lt
  have l2 := h2.lt
  have z2 := hb2.size
  have hab := apt_both (h1.below hb2) h2 l1 h1.under k2.1 k2.2.1 k2.2.2.1 k2.2.2.2
  have hac := apt_both ((h1.below hb2).below hb3) h3 (N := w2.heap.size) (by omega) (fun g off sp e => by have := h1.under g off sp e; omega) k3.1 k3.2.1 k3.2.2.1 k3.2.2.2
  have hbc := apt_both (h2.below hb3) h3 l2 h2.under k3.1 k3.2.1 k3.2.2.1 k3.2.2.2
  exact ⟨(h1.below hb2).below hb3, h2.below hb3, h3, hab.1, hac.1, hab.2, hbc.1, hac.2, hbc.2, k1, ⟨by omega, by omega⟩, ⟨by omega, by omega⟩⟩
set_option maxRecDepth 100000 in
set_option maxHeartbeats 8000000 in
theorem own_ok (A : Option Addr) (cap : Nat) (vs : List View) (n : Int) (S1 : Option Addr) (cap1 : Nat) (st1 : List St) (S2 : Option Addr) (cap2 : Nat) (st2 : List St) (w : World) (hs : Sl 3 viewL w A vs) (he : newE vs n = 0)
    (hS1 : Sl 6 stL w S1 st1) (hok1 : ∀ s ∈ st1, StOk w s) (hS2 : Sl 6 stL w S2 st2) (hok2 : ∀ s ∈ st2, StOk w s) :
    Calls Try.prog 10 #[.slice A vs.length cap, .int .i64 n, .slice S1 st1.length cap1, .slice S2 st2.length cap2] w fun e w' => e = .returned (.bool true) ∧ Below w.heap.size w w' := by
  have hk := fun W => known_any W
  obtain ⟨q1, q2, q3, q4, q5⟩ := newE_ok he
  have hn1 := fun a c W hs => new_ok a c vs n W hs q1 q2 q3 q4 q5
  clear q1 q2 q3 q4 q5 he
  go_enter Try.func10, Try.ntmps10
  go_wp2_with fail
  refine (hk _).mono ?_
  rintro e w0 ⟨rfl, hb0⟩
  have hz0 := hb0.size
  have hs0 := hs.below hb0
  go_wp2_with fail
  refine (hn1 _ _ _ hs0).mono ?_
  rintro e w1 ⟨a, rfl, hop1, hb1, a1, a2, a3, a4⟩
  have hz1 := hb1.size
  have hs1 := hs0.below hb1
  go_wp2_with fail
  refine (hn1 _ _ _ hs1).mono ?_
  rintro e w2 ⟨b, rfl, hop2, hb2, b1, b2, b3, b4⟩
  have hz2 := hb2.size
  have hs2 := hs1.below hb2
  go_wp2_with fail
  refine (hn1 _ _ _ hs2).mono ?_
  rintro e w3 ⟨c, rfl, hop3, hb3, c1, c2, c3, c4⟩
  have hz3 := hb3.size
  have hb03 : Below w.heap.size w w3 := ((hb0.trans (hb1.mono (by omega))).trans (hb2.mono (by omega))).trans (hb3.mono (by omega))
  have HT := Lib.hid (trio_new hop1 ⟨a2, a3⟩ hb2 hop2 ⟨b1, b2, b3, b4⟩ hb3 hop3 ⟨c1, c2, c3, c4⟩ hz1)
  clear hk hn1 hop1 hop2 hop3 hb0 hb1 hb2 hb3 hs0 hs1 hs2 a1 a2 a3 a4 b1 b2 b3 b4 c1 c2 c3 c4
  go_wp2_with fail
  go_loopg [15] (min (max st1.length st2.length) 150) (fun q i wr => ∃ (j : Nat) (Oa Ob : Op14), j + q = min (max st1.length st2.length) 150 ∧ i = .int .i64 j ∧ Trio w0.heap.size wr a b c Oa Ob Oa ∧ Oa.live.length ≤ 300 * j ∧ Ob.live.length ≤ 300 * j ∧ Below w.heap.size w wr)
  case atStart => exact ⟨0, _, _, by omega, rfl, HT.out, by simp, by simp, hb03⟩
  case round =>
    obtain ⟨j, Oa, Ob, hj, rfl, hT, hla, hlb, hb⟩ := hrel
    have Hj := Lib.hid hj
    have HT2 := Lib.hid hT
    have hj150 : j ≤ 150 := by omega
    have hzr := hb.size
    clear hj hT HT
    by_cases hlt : j < min (max st1.length st2.length) 150
    · have h8 : (j : Int) < 150 := by omega
      by_cases p1 : j < st1.length
      · by_cases p2 : j < st2.length
        · have d2 : (j : Int) < (st2.length : Int) := by omega
          have d1 : (j : Int) < (st1.length : Int) := by omega
          obtain ⟨sb, so, rfl, hsb, s6⟩ := hS1.six p1
          have hso1 := hok1 st1[j] (List.getElem_mem p1)
          generalize st1[j] = s at *
          obtain ⟨x1, x2, x3, x4, x5, x6, x7, x8⟩ := s
          dsimp only at *
          have hbD := (Below.refl wr.heap.size wr).drew
          have hX : (takeX Oa x3 x4).length ≤ 256 := takeX_len HT2.out.oa.vhi HT2.out.oa.vok x3 x4
          have ht1 := take_all a Oa x3 x4 wr.drew (HT2.out.oa.below hbD)
          have kp : ∀ W, Below wr.heap.size wr W → (Below wr.heap.size wr W ∧ W.cell? ⟨sb, so + j * 6 + 2, none⟩ = some (.string x3) ∧ W.cell? ⟨sb, so + j * 6 + 3, none⟩ = some (.int .i64 x4)) := by
            intro W hW
            obtain ⟨_, _, e2, e3, _, _⟩ := s6 W (hb.trans (hW.mono hzr))
            exact ⟨hW, e2, e3⟩
          have kD := kp _ hbD
          generalize takeX Oa x3 x4 = X at *
          generalize takeL Oa x3 x4 = lt at *
          generalize takeE Oa x3 x4 = er at *
          go_wp2_with fail
          go_region_held3 (fun W => Below wr.heap.size wr W ∧ W.cell? ⟨sb, so + j * 6 + 2, none⟩ = some (.string x3) ∧ W.cell? ⟨sb, so + j * 6 + 3, none⟩ = some (.int .i64 x4)) (first | exact kD | assumption)
            (first | (go_at_call 29; refine ht1.mono ?_; rintro e w1 ⟨v1, rfl, hx1, hb1⟩; have hk1 := kp _ (hbD.trans hb1)))
          have hb1' : Below wr.heap.size wr w1 := hbD.trans hb1
          have hsp := spoil_any wr.heap.size v1 X w1 hx1 hb1'.size (by omega)
          clear ht1 kp kD hx1
          go_wp2_with fail
          refine hsp.mono ?_
          rintro e w2 ⟨rfl, hb2⟩
          have hb2' := hb1'.trans hb2
          have hbw2 : Below w.heap.size w w2 := hb.trans (hb2'.mono hzr)
          have hz2 := hbw2.size
          have HT3 := Lib.hid (HT2.out.below hb2')
          obtain ⟨e0, e1, e2, e3, e4, e5⟩ := s6 _ hbw2
          have hd := do_any a Oa x1 x2 x3 x4 x5 x6 x7 x8 w2 HT3.out.oa (hso1.slB hbw2) hso1.cap (by omega)
          unfold stepV at hd
          clear hsp
          go_wp2_with fail
          refine hd.mono ?_
          rintro e w3' ⟨x, rfl, hx3, ho3, hc3⟩
          have hbw3 : Below w.heap.size w w3' := Below.op hbw2 hc3 (Nat.le_refl _) (by have := HT2.out.n1; simp; omega)
          have HT4 := Lib.hid (HT3.out.doA ho3 hc3)
          obtain ⟨g0, g1, g2, g3, g4, g5⟩ := s6 _ hbw3
          have hd2 := do_any c Oa x1 x2 x3 x4 x5 x6 x7 x8 w3' HT4.out.oc (hso1.slB hbw3) hso1.cap (by omega)
          unfold stepV at hd2
          clear hd ho3 e0 e1 e2 e3 e4 e5
          go_wp2_with fail
          refine hd2.mono ?_
          rintro e w4 ⟨y, rfl, hy4, ho4, hc4⟩
          have hlc := HT3.out.oc.lt
          have hz3 := hc3.size
          have hz4 := hc4.size
          have hx4 := hx3.chgGe hc4 (by simp; omega)
          have hbw4 : Below w.heap.size w w4 := Below.op hbw3 hc4 (Nat.le_refl _) (by have := HT2.out.n3; simp; omega)
          have HT5 := Lib.hid (HT4.out.doC ho4 hc4)
          have hXl := doX_len Oa x1 x2 x4
          have hdl := doO_len Oa x1 x2 x3 x4 x5 x8 HT2.out.oa.vhi HT2.out.oa.vok
          clear hd2 ho4 g0 g1 g2 g3 g4 g5 hx3
          generalize doO Oa x1 x2 x3 x4 x5 x8 = Oa' at *
          generalize doX Oa x1 x2 x4 = X2 at *
          obtain ⟨ox, capx, rfl, _, hsx, _, _⟩ := hx4.sl (fun _ => rfl)
          obtain ⟨oy, capy, rfl, _, hsy, _, _⟩ := hy4.sl (fun _ => rfl)
          have hsame := same_any ox capx X2 oy capy X2 w4 hsx hsy (by omega)
          rw [decide_eq_true rfl] at hsame
          have Hx4 := Lib.hid hx4
          clear hx4 hy4 hsx hsy
          go_wp2_with fail
          refine hsame.mono ?_
          rintro e w5 ⟨rfl, hb5⟩
          have hz5 := hb5.size
          have hsp2 := spoil_any w2.heap.size (.slice ox X2.length capx) X2 w5 (Hx4.out.below hb5) (by omega) (by omega)
          clear hsame
          go_wp2_with fail
          refine hsp2.mono ?_
          rintro e w6 ⟨rfl, hb6⟩
          have HT6 := Lib.hid (HT3.out.belowN (Nat.le_refl _) (HT5.out.below hb5) hb6)
          have hbw6 : Below w.heap.size w w6 := (hbw4.trans (hb5.mono (by omega))).trans (hb6.mono (by omega))
          have hz6 := hb6.size
          have hlv := live_any a Oa' w6 HT6.out.oa (by omega)
          clear hsp2
          go_wp2_with fail
          refine hlv.mono ?_
          rintro e w7 ⟨v7, rfl, hx7, hb7⟩
          have hz7 := hb7.size
          have hsp3 := spoil_any w6.heap.size v7 Oa'.live w7 hx7 hz7 (by omega)
          clear hlv hx7
          go_wp2_with fail
          refine hsp3.mono ?_
          rintro e w8 ⟨rfl, hb8⟩
          have hb68 := hb7.trans hb8
          have HT8 := Lib.hid (HT6.out.below hb68)
          have hbw8 : Below w.heap.size w w8 := hbw6.trans (hb68.mono (by omega))
          clear hsp3
          obtain ⟨tb, to, rfl, htb, t6⟩ := hS2.six p2
          have hso2 := hok2 st2[j] (List.getElem_mem p2)
          generalize st2[j] = s2 at *
          obtain ⟨y1, y2, y3, y4, y5, y6, y7, y8⟩ := s2
          dsimp only at *
          obtain ⟨e0, e1, e2, e3, e4, e5⟩ := t6 _ hbw8
          have hd := do_any b Ob y1 y2 y3 y4 y5 y6 y7 y8 w8 HT8.out.ob (hso2.slB hbw8) hso2.cap (by omega)
          unfold stepV at hd
          have hdl2 := doO_len Ob y1 y2 y3 y4 y5 y8 HT2.out.ob.vhi HT2.out.ob.vok
          generalize doO Ob y1 y2 y3 y4 y5 y8 = Ob' at *
          go_wp2_with fail
          refine hd.mono ?_
          rintro e w9 ⟨z9, rfl, _, ho9, hc9⟩
          have HT9 := Lib.hid (HT8.out.doB ho9 hc9)
          clear ho9 hd e0 e1 e2 e3 e4 e5
          go_wp2_with fail
          go_roundg (min (max st1.length st2.length) 150 - (j + 1))
          case measure => have := Hj.out; omega
          case rel => exact ⟨j + 1, Oa', Ob', by have := Hj.out; omega, by go_num, HT9.out, by omega, by omega, Below.op hbw8 hc9 (Nat.le_refl _) (by have := HT2.out.n2; simp; omega)⟩
        · have d2 : ¬ (j : Int) < (st2.length : Int) := by omega
          have d1 : (j : Int) < (st1.length : Int) := by omega
          obtain ⟨sb, so, rfl, hsb, s6⟩ := hS1.six p1
          have hso1 := hok1 st1[j] (List.getElem_mem p1)
          generalize st1[j] = s at *
          obtain ⟨x1, x2, x3, x4, x5, x6, x7, x8⟩ := s
          dsimp only at *
          have hbD := (Below.refl wr.heap.size wr).drew
          have hX : (takeX Oa x3 x4).length ≤ 256 := takeX_len HT2.out.oa.vhi HT2.out.oa.vok x3 x4
          have ht1 := take_all a Oa x3 x4 wr.drew (HT2.out.oa.below hbD)
          have kp : ∀ W, Below wr.heap.size wr W → (Below wr.heap.size wr W ∧ W.cell? ⟨sb, so + j * 6 + 2, none⟩ = some (.string x3) ∧ W.cell? ⟨sb, so + j * 6 + 3, none⟩ = some (.int .i64 x4)) := by
            intro W hW
            obtain ⟨_, _, e2, e3, _, _⟩ := s6 W (hb.trans (hW.mono hzr))
            exact ⟨hW, e2, e3⟩
          have kD := kp _ hbD
          generalize takeX Oa x3 x4 = X at *
          generalize takeL Oa x3 x4 = lt at *
          generalize takeE Oa x3 x4 = er at *
          go_wp2_with fail
          go_region_held3 (fun W => Below wr.heap.size wr W ∧ W.cell? ⟨sb, so + j * 6 + 2, none⟩ = some (.string x3) ∧ W.cell? ⟨sb, so + j * 6 + 3, none⟩ = some (.int .i64 x4)) (first | exact kD | assumption)
            (first | (go_at_call 29; refine ht1.mono ?_; rintro e w1 ⟨v1, rfl, hx1, hb1⟩; have hk1 := kp _ (hbD.trans hb1)))
          have hb1' : Below wr.heap.size wr w1 := hbD.trans hb1
          have hsp := spoil_any wr.heap.size v1 X w1 hx1 hb1'.size (by omega)
          clear ht1 kp kD hx1
          go_wp2_with fail
          refine hsp.mono ?_
          rintro e w2 ⟨rfl, hb2⟩
          have hb2' := hb1'.trans hb2
          have hbw2 : Below w.heap.size w w2 := hb.trans (hb2'.mono hzr)
          have hz2 := hbw2.size
          have HT3 := Lib.hid (HT2.out.below hb2')
          obtain ⟨e0, e1, e2, e3, e4, e5⟩ := s6 _ hbw2
          have hd := do_any a Oa x1 x2 x3 x4 x5 x6 x7 x8 w2 HT3.out.oa (hso1.slB hbw2) hso1.cap (by omega)
          unfold stepV at hd
          clear hsp
          go_wp2_with fail
          refine hd.mono ?_
          rintro e w3' ⟨x, rfl, hx3, ho3, hc3⟩
          have hbw3 : Below w.heap.size w w3' := Below.op hbw2 hc3 (Nat.le_refl _) (by have := HT2.out.n1; simp; omega)
          have HT4 := Lib.hid (HT3.out.doA ho3 hc3)
          obtain ⟨g0, g1, g2, g3, g4, g5⟩ := s6 _ hbw3
          have hd2 := do_any c Oa x1 x2 x3 x4 x5 x6 x7 x8 w3' HT4.out.oc (hso1.slB hbw3) hso1.cap (by omega)
          unfold stepV at hd2
          clear hd ho3 e0 e1 e2 e3 e4 e5
          go_wp2_with fail
          refine hd2.mono ?_
          rintro e w4 ⟨y, rfl, hy4, ho4, hc4⟩
          have hlc := HT3.out.oc.lt
          have hz3 := hc3.size
          have hz4 := hc4.size
          have hx4 := hx3.chgGe hc4 (by simp; omega)
          have hbw4 : Below w.heap.size w w4 := Below.op hbw3 hc4 (Nat.le_refl _) (by have := HT2.out.n3; simp; omega)
          have HT5 := Lib.hid (HT4.out.doC ho4 hc4)
          have hXl := doX_len Oa x1 x2 x4
          have hdl := doO_len Oa x1 x2 x3 x4 x5 x8 HT2.out.oa.vhi HT2.out.oa.vok
          clear hd2 ho4 g0 g1 g2 g3 g4 g5 hx3
          generalize doO Oa x1 x2 x3 x4 x5 x8 = Oa' at *
          generalize doX Oa x1 x2 x4 = X2 at *
          obtain ⟨ox, capx, rfl, _, hsx, _, _⟩ := hx4.sl (fun _ => rfl)
          obtain ⟨oy, capy, rfl, _, hsy, _, _⟩ := hy4.sl (fun _ => rfl)
          have hsame := same_any ox capx X2 oy capy X2 w4 hsx hsy (by omega)
          rw [decide_eq_true rfl] at hsame
          have Hx4 := Lib.hid hx4
          clear hx4 hy4 hsx hsy
          go_wp2_with fail
          refine hsame.mono ?_
          rintro e w5 ⟨rfl, hb5⟩
          have hz5 := hb5.size
          have hsp2 := spoil_any w2.heap.size (.slice ox X2.length capx) X2 w5 (Hx4.out.below hb5) (by omega) (by omega)
          clear hsame
          go_wp2_with fail
          refine hsp2.mono ?_
          rintro e w6 ⟨rfl, hb6⟩
          have HT6 := Lib.hid (HT3.out.belowN (Nat.le_refl _) (HT5.out.below hb5) hb6)
          have hbw6 : Below w.heap.size w w6 := (hbw4.trans (hb5.mono (by omega))).trans (hb6.mono (by omega))
          have hz6 := hb6.size
          have hlv := live_any a Oa' w6 HT6.out.oa (by omega)
          clear hsp2
          go_wp2_with fail
          refine hlv.mono ?_
          rintro e w7 ⟨v7, rfl, hx7, hb7⟩
          have hz7 := hb7.size
          have hsp3 := spoil_any w6.heap.size v7 Oa'.live w7 hx7 hz7 (by omega)
          clear hlv hx7
          go_wp2_with fail
          refine hsp3.mono ?_
          rintro e w8 ⟨rfl, hb8⟩
          have hb68 := hb7.trans hb8
          have HT8 := Lib.hid (HT6.out.below hb68)
          have hbw8 : Below w.heap.size w w8 := hbw6.trans (hb68.mono (by omega))
          clear hsp3
          go_wp2_with fail
          go_roundg (min (max st1.length st2.length) 150 - (j + 1))
          case measure => have := Hj.out; omega
          case rel => exact ⟨j + 1, Oa', Ob, by have := Hj.out; omega, by go_num, HT8.out, by omega, by omega, hbw8⟩
      · have p2 : j < st2.length := by omega
        have d1 : ¬ (j : Int) < (st1.length : Int) := by omega
        have d2 : (j : Int) < (st2.length : Int) := by omega
        obtain ⟨tb, to, rfl, htb, t6⟩ := hS2.six p2
        have hso2 := hok2 st2[j] (List.getElem_mem p2)
        generalize st2[j] = s at *
        obtain ⟨y1, y2, y3, y4, y5, y6, y7, y8⟩ := s
        dsimp only at *
        obtain ⟨e0, e1, e2, e3, e4, e5⟩ := t6 _ hb
        have hd := do_any b Ob y1 y2 y3 y4 y5 y6 y7 y8 wr HT2.out.ob (hso2.slB hb) hso2.cap (by omega)
        unfold stepV at hd
        have hdl := doO_len Ob y1 y2 y3 y4 y5 y8 HT2.out.ob.vhi HT2.out.ob.vok
        generalize doO Ob y1 y2 y3 y4 y5 y8 = Ob' at *
        go_wp2_with fail
        refine hd.mono ?_
        rintro e w9 ⟨z9, rfl, _, ho9, hc9⟩
        have HT9 := Lib.hid (HT2.out.doB ho9 hc9)
        clear ho9 hd e0 e1 e2 e3 e4 e5
        go_wp2_with fail
        go_roundg (min (max st1.length st2.length) 150 - (j + 1))
        case measure => have := Hj.out; omega
        case rel => exact ⟨j + 1, Oa, Ob', by have := Hj.out; omega, by go_num, HT9.out, by omega, by omega, Below.op hb hc9 (Nat.le_refl _) (by have := HT2.out.n2; simp; omega)⟩
    · by_cases p3 : j < 150
      · have d1 : ¬ (j : Int) < (st1.length : Int) := by omega
        have d2 : ¬ (j : Int) < (st2.length : Int) := by omega
        have hlv := live_any a Oa wr HT2.out.oa (by omega)
        go_wp2_with fail
        refine hlv.mono ?_
        rintro e w4 ⟨v4, rfl, hx4, hb4⟩
        have hz4 := hb4.size
        have HT4 := Lib.hid (HT2.out.below hb4)
        have hlv2 := live_any c Oa w4 HT4.out.oc (by omega)
        obtain ⟨ox, capx, rfl, _, hsx, _, _⟩ := hx4.sl (fun _ => rfl)
        clear hlv hx4
        go_wp2_with fail
        refine hlv2.mono ?_
        rintro e w5 ⟨v5, rfl, hx5, hb5⟩
        have hz5 := hb5.size
        have HT5 := Lib.hid (HT4.out.below hb5)
        obtain ⟨oy, capy, rfl, _, hsy, _, _⟩ := hx5.sl (fun _ => rfl)
        have hsame := same_any ox capx Oa.live oy capy Oa.live w5 (hsx.below hb5) hsy (by omega)
        rw [decide_eq_true rfl] at hsame
        clear hlv2 hx5 hsx hsy
        go_wp2_with fail
        refine hsame.mono ?_
        rintro e w6 ⟨rfl, hb6⟩
        have HT6 := Lib.hid (HT5.out.below hb6)
        have hl1 := operLeast_any a Oa w6 HT6.out.oa
        have hl2 := operLeast_any c Oa w6 HT6.out.oc
        generalize leastOf Oa.ms = lm at *
        have heq : (lm == lm) = true := by simp
        go_wp2_with fail
        refine hl1.mono ?_
        rintro e w' ⟨rfl, rfl⟩
        go_wp2_with fail
        refine hl2.mono ?_
        rintro e w' ⟨rfl, rfl⟩
        go_wp2_with fail
        go_ret
        exact ⟨rfl, hb.trans ((hb4.trans ((hb5.mono hz4).trans (hb6.mono (by omega)))).mono hzr)⟩
      · have h8 : ¬ (j : Int) < 150 := by omega
        by_cases p1 : j < st1.length
        · have d1 : (j : Int) < (st1.length : Int) := by omega
          have hlv := live_any a Oa wr HT2.out.oa (by omega)
          go_wp2_with fail
          refine hlv.mono ?_
          rintro e w4 ⟨v4, rfl, hx4, hb4⟩
          have hz4 := hb4.size
          have HT4 := Lib.hid (HT2.out.below hb4)
          have hlv2 := live_any c Oa w4 HT4.out.oc (by omega)
          obtain ⟨ox, capx, rfl, _, hsx, _, _⟩ := hx4.sl (fun _ => rfl)
          clear hlv hx4
          go_wp2_with fail
          refine hlv2.mono ?_
          rintro e w5 ⟨v5, rfl, hx5, hb5⟩
          have hz5 := hb5.size
          have HT5 := Lib.hid (HT4.out.below hb5)
          obtain ⟨oy, capy, rfl, _, hsy, _, _⟩ := hx5.sl (fun _ => rfl)
          have hsame := same_any ox capx Oa.live oy capy Oa.live w5 (hsx.below hb5) hsy (by omega)
          rw [decide_eq_true rfl] at hsame
          clear hlv2 hx5 hsx hsy
          go_wp2_with fail
          refine hsame.mono ?_
          rintro e w6 ⟨rfl, hb6⟩
          have HT6 := Lib.hid (HT5.out.below hb6)
          have hl1 := operLeast_any a Oa w6 HT6.out.oa
          have hl2 := operLeast_any c Oa w6 HT6.out.oc
          generalize leastOf Oa.ms = lm at *
          have heq : (lm == lm) = true := by simp
          go_wp2_with fail
          refine hl1.mono ?_
          rintro e w' ⟨rfl, rfl⟩
          go_wp2_with fail
          refine hl2.mono ?_
          rintro e w' ⟨rfl, rfl⟩
          go_wp2_with fail
          go_ret
          exact ⟨rfl, hb.trans ((hb4.trans ((hb5.mono hz4).trans (hb6.mono (by omega)))).mono hzr)⟩
        · have d1 : ¬ (j : Int) < (st1.length : Int) := by omega
          have d2 : (j : Int) < (st2.length : Int) ∨ ¬ (j : Int) < (st2.length : Int) := by omega
          rcases d2 with d2 | d2
          · skip
            have hlv := live_any a Oa wr HT2.out.oa (by omega)
            go_wp2_with fail
            refine hlv.mono ?_
            rintro e w4 ⟨v4, rfl, hx4, hb4⟩
            have hz4 := hb4.size
            have HT4 := Lib.hid (HT2.out.below hb4)
            have hlv2 := live_any c Oa w4 HT4.out.oc (by omega)
            obtain ⟨ox, capx, rfl, _, hsx, _, _⟩ := hx4.sl (fun _ => rfl)
            clear hlv hx4
            go_wp2_with fail
            refine hlv2.mono ?_
            rintro e w5 ⟨v5, rfl, hx5, hb5⟩
            have hz5 := hb5.size
            have HT5 := Lib.hid (HT4.out.below hb5)
            obtain ⟨oy, capy, rfl, _, hsy, _, _⟩ := hx5.sl (fun _ => rfl)
            have hsame := same_any ox capx Oa.live oy capy Oa.live w5 (hsx.below hb5) hsy (by omega)
            rw [decide_eq_true rfl] at hsame
            clear hlv2 hx5 hsx hsy
            go_wp2_with fail
            refine hsame.mono ?_
            rintro e w6 ⟨rfl, hb6⟩
            have HT6 := Lib.hid (HT5.out.below hb6)
            have hl1 := operLeast_any a Oa w6 HT6.out.oa
            have hl2 := operLeast_any c Oa w6 HT6.out.oc
            generalize leastOf Oa.ms = lm at *
            have heq : (lm == lm) = true := by simp
            go_wp2_with fail
            refine hl1.mono ?_
            rintro e w' ⟨rfl, rfl⟩
            go_wp2_with fail
            refine hl2.mono ?_
            rintro e w' ⟨rfl, rfl⟩
            go_wp2_with fail
            go_ret
            exact ⟨rfl, hb.trans ((hb4.trans ((hb5.mono hz4).trans (hb6.mono (by omega)))).mono hzr)⟩
          · skip
            have hlv := live_any a Oa wr HT2.out.oa (by omega)
            go_wp2_with fail
            refine hlv.mono ?_
            rintro e w4 ⟨v4, rfl, hx4, hb4⟩
            have hz4 := hb4.size
            have HT4 := Lib.hid (HT2.out.below hb4)
            have hlv2 := live_any c Oa w4 HT4.out.oc (by omega)
            obtain ⟨ox, capx, rfl, _, hsx, _, _⟩ := hx4.sl (fun _ => rfl)
            clear hlv hx4
            go_wp2_with fail
            refine hlv2.mono ?_
            rintro e w5 ⟨v5, rfl, hx5, hb5⟩
            have hz5 := hb5.size
            have HT5 := Lib.hid (HT4.out.below hb5)
            obtain ⟨oy, capy, rfl, _, hsy, _, _⟩ := hx5.sl (fun _ => rfl)
            have hsame := same_any ox capx Oa.live oy capy Oa.live w5 (hsx.below hb5) hsy (by omega)
            rw [decide_eq_true rfl] at hsame
            clear hlv2 hx5 hsx hsy
            go_wp2_with fail
            refine hsame.mono ?_
            rintro e w6 ⟨rfl, hb6⟩
            have HT6 := Lib.hid (HT5.out.below hb6)
            have hl1 := operLeast_any a Oa w6 HT6.out.oa
            have hl2 := operLeast_any c Oa w6 HT6.out.oc
            generalize leastOf Oa.ms = lm at *
            have heq : (lm == lm) = true := by simp
            go_wp2_with fail
            refine hl1.mono ?_
            rintro e w' ⟨rfl, rfl⟩
            go_wp2_with fail
            refine hl2.mono ?_
            rintro e w' ⟨rfl, rfl⟩
            go_wp2_with fail
            go_ret
            exact ⟨rfl, hb.trans ((hb4.trans ((hb5.mono hz4).trans (hb6.mono (by omega)))).mono hzr)⟩

/-- THE LAW OperOwn, whatever its arguments. -/
theorem own_any (A : Option Addr) (cap : Nat) (vs : List View) (n : Int) (S1 : Option Addr) (cap1 : Nat) (st1 : List St) (S2 : Option Addr) (cap2 : Nat) (st2 : List St) (w : World) (hs : Sl 3 viewL w A vs) (hu : Under w.heap.size A) (hn : (Lit.int .i64 n).wf = true)
    (hS1 : Sl 6 stL w S1 st1) (hok1 : ∀ s ∈ st1, StOk w s) (hS2 : Sl 6 stL w S2 st2) (hok2 : ∀ s ∈ st2, StOk w s) :
    Calls Try.prog 10 #[.slice A vs.length cap, .int .i64 n, .slice S1 st1.length cap1, .slice S2 st2.length cap2] w fun e w' => e = .returned (.bool true) ∧ Below w.heap.size w w' := by
  by_cases he : newE vs n = 0
  · exact own_ok A cap vs n S1 cap1 st1 S2 cap2 st2 w hs he hS1 hok1 hS2 hok2
  · exact own_bad A cap vs n _ _ w hs he
end Go.Proofs.Ytheimbhnckaonaa
