/- The walk of the law OperPlays: the script. -/
import Derived.Test.YtheimbhnckaonaaPlaysB
import Derived.Test.YtheimbhnckaonaaHeld
set_option linter.unusedVariables false
set_option linter.unusedSimpArgs false
namespace Go.Proofs.Ytheimbhnckaonaa
open Go.RowKit

/-- What the document's operator's third field holds. -/
def rcell (r : RefB) (W : World) : Value := (W.cell? ⟨r.rp, 2, none⟩).getD undef
theorem rcell_at {N : Nat} {W : World} {b : OpB} {r : RefB} {O : Op14} (h : Both N W b r O) : W.cell? ⟨r.rp, 2, none⟩ = some (rcell r W) := by
  obtain ⟨av, vcap, la, lcap, _, _, _, hls, _, _, _, _, _, c2⟩ := h.rf.sl
  unfold rcell
  rw [c2]
  rfl
theorem rcell_sl {N : Nat} {W : World} {b : OpB} {r : RefB} {O : Op14} (h : Both N W b r O) : ∃ la lcap, rcell r W = .slice la O.live.length lcap ∧ Sl 3 cellL W la O.live := by
  obtain ⟨av, vcap, la, lcap, _, _, _, hls, _, _, _, _, _, c2⟩ := h.rf.sl
  refine ⟨la, lcap, ?_, hls⟩
  unfold rcell
  rw [c2]
  rfl
/-- SameCells of what both tell. -/
theorem same_both {N : Nat} {W X : World} {b : OpB} {r : RefB} {O : Op14} (h : Both N X b r O) (hX : Below X.heap.size X W) (o : Option Addr) (cap : Nat) (hs : Sl 3 cellL W o O.live) (hl : O.live.length ≤ 10000000) :
    Calls Try.prog 21 #[.slice o O.live.length cap, rcell r X] W fun e w' => e = .returned (.bool true) ∧ Below W.heap.size W w' := by
  obtain ⟨la, lcap, e, h2⟩ := rcell_sl h
  rw [e]
  have h3 := same_any o cap O.live la lcap O.live W hs (h2.below hX) (by omega)
  rw [decide_eq_true rfl] at h3
  exact h3
theorem live_both {N : Nat} {W : World} {b : OpB} {r : RefB} {O : Op14} (h : Both N W b r O) (hl : O.live.length ≤ 10000000) : Calls Try.prog 22 #[.pointer (some ⟨b.bp, 0, none⟩)] W fun e w' => ∃ o cap, e = .returned (.slice o O.live.length cap) ∧ Sl 3 cellL w' o O.live ∧ Below W.heap.size W w' := by
  refine (live_any b O W h.op (by omega)).mono ?_
  rintro e w' ⟨v, rfl, ho, hb⟩
  obtain ⟨o, cap, rfl, _, hs, _, _⟩ := ho.sl fun _ => rfl
  exact ⟨o, cap, rfl, hs, hb⟩

set_option maxRecDepth 100000 in
set_option maxHeartbeats 8000000 in
theorem plays_ok (A : Option Addr) (cap : Nat) (vs : List View) (n : Int) (S : Option Addr) (scap : Nat) (sts : List St) (w : World) (hs : Sl 3 viewL w A vs) (hA : Under w.heap.size A) (hl : vs.length ≤ 100000000) (he : newE vs n = 0)
    (hS : Sl 6 stL w S sts) (hok : ∀ s ∈ sts, StOk w s) (hsl : sts.length ≤ 100000000) :
    Calls Try.prog 7 #[.slice A vs.length cap, .int .i64 n, .slice S sts.length scap] w fun e w' => e = .returned (.bool true) ∧ Below w.heap.size w w' := by
  have hk := fun W => known_any W
  have hlend := fun W hs => lendV_any A cap vs W hs hl
  obtain ⟨q1, q2, q3, q4, q5⟩ := newE_ok he
  have hn1 := fun a c W hs => new_ok a c vs n W hs q1 q2 q3 q4 q5
  have hn2 := fun a c W hs => refNew_ok a c vs n W hs q1 q2 q3 q4 q5
  clear q1 q2 q3 q4 q5 he
  go_enter Try.func7, Try.ntmps7
  go_wp2_with fail
  refine (hk _).mono ?_
  rintro e w0 ⟨rfl, hb0⟩
  go_wp2_with fail
  refine (hlend _ (hs.below hb0)).mono ?_
  rintro e w1 ⟨g, rfl, hown, hb1⟩
  have hsl1 : Sl 3 viewL w1 (some ⟨g, 0, none⟩) vs := by
    have h := (hown.sl0 (fun _ => rfl)).take vs.length
    rw [List.take_left] at h
    exact h
  have hgg := hown.ge (g := g) rfl
  have hz0 := hb0.size
  have hz1 := hb1.size
  go_wp2_with fail
  refine (hn1 _ _ _ hsl1).mono ?_
  rintro e w2 ⟨b, rfl, hop, hb2, n1, n2, n3, n6⟩
  have hb02 : Below w.heap.size w w2 := hb0.trans ((hb1.mono hz0).trans (hb2.mono (by omega)))
  have hz2 := hb2.size
  go_wp2_with fail
  refine (hn2 _ _ _ (hs.below hb02)).mono ?_
  rintro e w3 ⟨r, rfl, hrf, hb3, n4, n5, hall⟩
  have hown3 := (hown.below hb2).below hb3
  have hb03 : Below w.heap.size w w3 := hb02.trans (hb3.mono (by omega))
  have hz3 := hb3.size
  go_wp2_with fail
  refine (keptV_any _ g A cap vs w3 (hs.below hb03) (fun b' off sp e => by have := hA b' off sp e; omega) hown3 hl).mono ?_
  rintro e w4 ⟨rfl, hch4⟩
  have hop3 := hop.below hb3
  have hgm : g ≠ b.bm := hown3.neObj hop3.marks.obj (by decide) rfl
  have hop4 : IsOper w4 b ⟨vs, List.replicate n.toNat noMark, []⟩ := hop3.keep hch4.size (hch4.block _ hop3.lt.1 (by simp; omega)) (hch4.block _ hop3.lt.2.1 (by simp; exact Ne.symm hgm)) (hch4.block _ hop3.lt.2.2.1 (by simp; omega)) (hch4.block _ hop3.lt.2.2.2 (by simp; omega)) (fun g' off sp e => hch4.block _ (hop3.vne g' off sp e).2.2 (by have := n6 g' off sp e; simp; omega))
  have hrf4 := hall w4 [g] hch4 (by simp; omega)
  have hlt := hop.lt
  have HB := Lib.hid (show Both w.heap.size w4 b r ⟨vs, List.replicate n.toNat noMark, []⟩ from ⟨hop4, hrf4, by omega, fun g' off sp e => by have := (hop.vne g' off sp e).2.2; exact ⟨by omega, by omega⟩, by omega, by omega, by omega, by omega⟩)
  have hb04 : Below w.heap.size w w4 := Below.chain hb03 hch4 (by omega) (by simp; omega)
  go_wp2_with fail
  clear hk hlend hn1 hn2 hown hsl1 hgg hb1 hop hb2 hrf hb3 hall hown3 hb03 hch4 hop3 hop4 hrf4 hb02 n1 n2 n3 n4 n5 n6 hgm hlt
  go_loopg [12] (min sts.length 600) (fun q i wr => ∃ (j : Nat) (O : Op14), j + q = min sts.length 600 ∧ i = .int .i64 j ∧ Both w.heap.size wr b r O ∧ O.live.length ≤ 300 * j ∧ Below w.heap.size w wr)
  case atStart => exact ⟨0, _, by omega, rfl, HB.out, by simp, hb04⟩
  case round =>
    obtain ⟨j, O, hj, rfl, hB, hlO, hb⟩ := hrel
    have Hj := Lib.hid hj
    have HB2 := Lib.hid hB
    clear hj hB
    by_cases hlt : j < min sts.length 600
    · have h7 : j < sts.length := by omega
      have h8 : (j : Int) < 600 := by omega
      obtain ⟨sb, so, rfl, hsb, z0, z1, z2, z3, z4, z5⟩ := hS.at6 h7
      have d0 := (hb.cell (p := ⟨sb, _, none⟩) hsb).trans z0
      have d1 := (hb.cell (p := ⟨sb, _, none⟩) hsb).trans z1
      have d2 := (hb.cell (p := ⟨sb, _, none⟩) hsb).trans z2
      have d3 := (hb.cell (p := ⟨sb, _, none⟩) hsb).trans z3
      have d4 := (hb.cell (p := ⟨sb, _, none⟩) hsb).trans z4
      have d5 := (hb.cell (p := ⟨sb, _, none⟩) hsb).trans z5
      have hso := hok sts[j] (List.getElem_mem h7)
      have hst : ∀ W, Below wr.heap.size wr W → Calls Try.prog 20 #[.pointer (some ⟨b.bp, 0, none⟩), .pointer (some ⟨r.rp, 0, none⟩), .agg #[.int .i64 sts[j].kind, .int .i64 sts[j].source, .string sts[j].key, .int .i64 sts[j].t, .int .i64 sts[j].v, .slice sts[j].A sts[j].cs.length sts[j].cap]] W fun e w' => e = .returned (.bool true) ∧ ∃ O', Both w.heap.size w' b r O' ∧ Below w.heap.size W w' ∧ O'.live.length ≤ O.live.length + 300 := by
        intro W hW
        exact step_any b r O _ _ _ _ _ _ _ _ W (HB2.out.below hW) (hso.slB (hb.trans (hW.mono hb.size))) hso.under hso.cap (by omega) (by have := hb.size; have := hW.size; omega)
      clear z0 z1 z2 z3 z4 z5
      generalize sts[j] = s at *
      obtain ⟨x1, x2, x3, x4, x5, x6, x7, x8⟩ := s
      dsimp only at *
      cases h9 : (((j : Int).tmod 9) == 4)
      · have hbD := (Below.refl wr.heap.size wr).drew
        have hst1 := hst wr.drew hbD
        have kp : ∀ W, Below w.heap.size wr W → (Below w.heap.size wr W ∧ W.cell? ⟨sb, so + j * 6, none⟩ = some (.int .i64 x1) ∧ W.cell? ⟨sb, so + j * 6 + 1, none⟩ = some (.int .i64 x2) ∧ W.cell? ⟨sb, so + j * 6 + 2, none⟩ = some (.string x3) ∧ W.cell? ⟨sb, so + j * 6 + 3, none⟩ = some (.int .i64 x4) ∧ W.cell? ⟨sb, so + j * 6 + 4, none⟩ = some (.int .i64 x5) ∧ W.cell? ⟨sb, so + j * 6 + 5, none⟩ = some (.slice x6 x8.length x7)) := by
          intro W hW
          have hk : ∀ off, W.cell? ⟨sb, off, none⟩ = wr.cell? ⟨sb, off, none⟩ := fun off => hW.cell (p := ⟨sb, off, none⟩) hsb
          exact ⟨hW, (hk _).trans d0, (hk _).trans d1, (hk _).trans d2, (hk _).trans d3, (hk _).trans d4, (hk _).trans d5⟩
        have kD := kp _ (hbD.mono hb.size)
        clear hst
        go_wp2_with fail
        refine wp_region_held_drew (S := fun W => Below w.heap.size wr W ∧ W.cell? ⟨sb, so + j * 6, none⟩ = some (.int .i64 x1) ∧ W.cell? ⟨sb, so + j * 6 + 1, none⟩ = some (.int .i64 x2) ∧ W.cell? ⟨sb, so + j * 6 + 2, none⟩ = some (.string x3) ∧ W.cell? ⟨sb, so + j * 6 + 3, none⟩ = some (.int .i64 x4) ∧ W.cell? ⟨sb, so + j * 6 + 4, none⟩ = some (.int .i64 x5) ∧ W.cell? ⟨sb, so + j * 6 + 5, none⟩ = some (.slice x6 x8.length x7)) (by kernel_rfl) kD (fun hHeld => ?_)
        refine wpAnyH_takeD (i := 0) (oi := _) (d := 57) (v := ?vf0) rfl (by kernel_rfl) (by kernel_rfl) (by kernel_rfl) (by kernel_rfl) (fun _ _ _ h => h) (Or.inl ⟨by kernel_rfl, ?yf0⟩) (by assumption) ?rf0
        case yf0 =>
          intro w' hSw
          try dsimp only at hSw
          go_simp
          try with_reducible rfl
        try simp only [Act.put, List.setIfInBounds_toArray, List.set_cons_zero, List.set_cons_succ]
        refine wpAnyH_takeD (i := 1) (oi := _) (d := 58) (v := ?vf1) rfl (by kernel_rfl) (by kernel_rfl) (by kernel_rfl) (by kernel_rfl) (fun _ _ _ h => h) (Or.inl ⟨by kernel_rfl, ?yf1⟩) (by assumption) ?rf1
        case yf1 =>
          intro w' hSw
          try dsimp only at hSw
          go_simp
          try with_reducible rfl
        try simp only [Act.put, List.setIfInBounds_toArray, List.set_cons_zero, List.set_cons_succ]
        refine wpAnyH_takeD (i := 2) (oi := _) (d := 59) (v := ?vf2) rfl (by kernel_rfl) (by kernel_rfl) (by kernel_rfl) (by kernel_rfl) (fun _ _ _ h => h) (Or.inl ⟨by kernel_rfl, ?yf2⟩) (by assumption) ?rf2
        case yf2 =>
          intro w' hSw
          try dsimp only at hSw
          go_simp
          try with_reducible rfl
        try simp only [Act.put, List.setIfInBounds_toArray, List.set_cons_zero, List.set_cons_succ]
        refine wpAnyH_takeD (i := 3) (oi := _) (d := 60) (v := ?vf3) rfl (by kernel_rfl) (by kernel_rfl) (by kernel_rfl) (by kernel_rfl) (fun _ _ _ h => h) (Or.inl ⟨by kernel_rfl, ?yf3⟩) (by assumption) ?rf3
        case yf3 =>
          intro w' hSw
          try dsimp only at hSw
          go_simp
          try with_reducible rfl
        try simp only [Act.put, List.setIfInBounds_toArray, List.set_cons_zero, List.set_cons_succ]
        refine wpAnyH_takeD (i := 4) (oi := _) (d := 61) (v := ?vf4) rfl (by kernel_rfl) (by kernel_rfl) (by kernel_rfl) (by kernel_rfl) (fun _ _ _ h => h) (Or.inl ⟨by kernel_rfl, ?yf4⟩) (by assumption) ?rf4
        case yf4 =>
          intro w' hSw
          try dsimp only at hSw
          go_simp
          try with_reducible rfl
        try simp only [Act.put, List.setIfInBounds_toArray, List.set_cons_zero, List.set_cons_succ]
        refine wpAnyH_takeD (i := 5) (oi := _) (d := 62) (v := ?vf5) rfl (by kernel_rfl) (by kernel_rfl) (by kernel_rfl) (by kernel_rfl) (fun _ _ _ h => h) (Or.inl ⟨by kernel_rfl, ?yf5⟩) (by assumption) ?rf5
        case yf5 =>
          intro w' hSw
          try dsimp only at hSw
          go_simp
          try with_reducible rfl
        try simp only [Act.put, List.setIfInBounds_toArray, List.set_cons_zero, List.set_cons_succ]
        refine wpAnyH_ready (rs := [6]) (by kernel_rfl) (by simp) ?_
        refine AllReadyH.cons (o := _) rfl (fun K hK => ?_) AllReadyH.nil
        go_simp
        go_at_call 20
        refine hst1.mono ?_
        rintro e w4 ⟨rfl, O', hB4, hb4, hl4⟩
        have hz4 := (hbD.mono hb.size).trans hb4
        have hk4 := kp _ hz4
        have HB4 := Lib.hid hB4
        clear hB4 hst1
        refine hK.out _ _ hk4 (fun _ => ?_)
        clear hK K
        try simp only [Act.put, List.setIfInBounds_toArray, List.set_cons_zero, List.set_cons_succ]
        refine wpAnyH_takeD (i := 7) (oi := _) (d := 64) (v := ?vf7) rfl (by kernel_rfl) (by kernel_rfl) (by kernel_rfl) (by kernel_rfl) (fun _ _ _ h => h) (Or.inl ⟨by kernel_rfl, ?yf7⟩) (by assumption) ?rf7
        case yf7 =>
          intro w' hSw
          try dsimp only at hSw
          go_simp
          try with_reducible rfl
        try simp only [Act.put, List.setIfInBounds_toArray, List.set_cons_zero, List.set_cons_succ]
        refine wpAnyH_takeD (i := 8) (oi := _) (d := 65) (v := ?vf8) rfl (by kernel_rfl) (by kernel_rfl) (by kernel_rfl) (by kernel_rfl) (fun _ _ _ h => h) (Or.inl ⟨by kernel_rfl, ?yf8⟩) (by assumption) ?rf8
        case yf8 =>
          intro w' hSw
          try dsimp only at hSw
          go_simp
          try with_reducible rfl
        try simp only [Act.put, List.setIfInBounds_toArray, List.set_cons_zero, List.set_cons_succ]
        refine wpAnyH_takeD (i := 9) (oi := _) (d := 66) (v := ?vf9) rfl (by kernel_rfl) (by kernel_rfl) (by kernel_rfl) (by kernel_rfl) (fun _ _ _ h => h) (Or.inl ⟨by kernel_rfl, ?yf9⟩) (by assumption) ?rf9
        case yf9 =>
          intro w' hSw
          try dsimp only at hSw
          go_simp
          try with_reducible rfl
        try simp only [Act.put, List.setIfInBounds_toArray, List.set_cons_zero, List.set_cons_succ]
        refine wpAnyH_takeD (i := 10) (oi := _) (d := 67) (v := ?vf10) rfl (by kernel_rfl) (by kernel_rfl) (by kernel_rfl) (by kernel_rfl) (fun _ _ _ h => h) (Or.inl ⟨by kernel_rfl, ?yf10⟩) (by assumption) ?rf10
        case yf10 =>
          intro w' hSw
          try dsimp only at hSw
          go_simp
          try with_reducible rfl
        try simp only [Act.put, List.setIfInBounds_toArray, List.set_cons_zero, List.set_cons_succ]
        refine wpAnyH_takeD (i := 11) (oi := _) (d := 68) (v := ?vf11) rfl (by kernel_rfl) (by kernel_rfl) (by kernel_rfl) (by kernel_rfl) (fun _ _ _ h => h) (Or.inl ⟨by kernel_rfl, ?yf11⟩) (by assumption) ?rf11
        case yf11 =>
          intro w' hSw
          try dsimp only at hSw
          go_simp
          try with_reducible rfl
        try simp only [Act.put, List.setIfInBounds_toArray, List.set_cons_zero, List.set_cons_succ]
        refine wpAnyH_takeD (i := 12) (oi := _) (d := 69) (v := ?vf12) rfl (by kernel_rfl) (by kernel_rfl) (by kernel_rfl) (by kernel_rfl) (fun _ _ _ h => h) (Or.inl ⟨by kernel_rfl, ?yf12⟩) (by assumption) ?rf12
        case yf12 =>
          intro w' hSw
          try dsimp only at hSw
          go_simp
          try with_reducible rfl
        try simp only [Act.put, List.setIfInBounds_toArray, List.set_cons_zero, List.set_cons_succ]
        refine wpAnyH_takeD (i := 13) (oi := _) (d := 70) (v := undef) rfl (by kernel_rfl) (by kernel_rfl) (by kernel_rfl) (by kernel_rfl) (fun _ _ _ h => h) (Or.inr ⟨by kernel_rfl, rfl⟩) (by assumption) ?_
        try simp only [Act.put, List.setIfInBounds_toArray, List.set_cons_zero, List.set_cons_succ]
        refine wpAnyH_takeD (i := 14) (oi := _) (d := 71) (v := undef) rfl (by kernel_rfl) (by kernel_rfl) (by kernel_rfl) (by kernel_rfl) (fun _ _ _ h => h) (Or.inr ⟨by kernel_rfl, rfl⟩) (by assumption) ?_
        try simp only [Act.put, List.setIfInBounds_toArray, List.set_cons_zero, List.set_cons_succ]
        refine wpAnyH_takeD (i := 15) (oi := _) (d := 72) (v := undef) rfl (by kernel_rfl) (by kernel_rfl) (by kernel_rfl) (by kernel_rfl) (fun _ _ _ h => h) (Or.inr ⟨by kernel_rfl, rfl⟩) (by assumption) ?_
        try simp only [Act.put, List.setIfInBounds_toArray, List.set_cons_zero, List.set_cons_succ]
        refine wpAnyH_takeD (i := 16) (oi := _) (d := 73) (v := undef) rfl (by kernel_rfl) (by kernel_rfl) (by kernel_rfl) (by kernel_rfl) (fun _ _ _ h => h) (Or.inr ⟨by kernel_rfl, rfl⟩) (by assumption) ?_
        try simp only [Act.put, List.setIfInBounds_toArray, List.set_cons_zero, List.set_cons_succ]
        refine wpAnyH_takeD (i := 17) (oi := _) (d := 74) (v := undef) rfl (by kernel_rfl) (by kernel_rfl) (by kernel_rfl) (by kernel_rfl) (fun _ _ _ h => h) (Or.inr ⟨by kernel_rfl, rfl⟩) (by assumption) ?_
        try simp only [Act.put, List.setIfInBounds_toArray, List.set_cons_zero, List.set_cons_succ]
        refine wpAnyH_takeD (i := 18) (oi := _) (d := 75) (v := undef) rfl (by kernel_rfl) (by kernel_rfl) (by kernel_rfl) (by kernel_rfl) (fun _ _ _ h => h) (Or.inr ⟨by kernel_rfl, rfl⟩) (by assumption) ?_
        try simp only [Act.put, List.setIfInBounds_toArray, List.set_cons_zero, List.set_cons_succ]
        refine wpAnyH_takeD (i := 19) (oi := _) (d := 76) (v := undef) rfl (by kernel_rfl) (by kernel_rfl) (by kernel_rfl) (by kernel_rfl) (fun _ _ _ h => h) (Or.inr ⟨by kernel_rfl, rfl⟩) (by assumption) ?_
        try simp only [Act.put, List.setIfInBounds_toArray, List.set_cons_zero, List.set_cons_succ]
        refine wpAnyH_takeD (i := 20) (oi := _) (d := 77) (v := undef) rfl (by kernel_rfl) (by kernel_rfl) (by kernel_rfl) (by kernel_rfl) (fun _ _ _ h => h) (Or.inr ⟨by kernel_rfl, rfl⟩) (by assumption) ?_
        try simp only [Act.put, List.setIfInBounds_toArray, List.set_cons_zero, List.set_cons_succ]
        refine wpAnyH_takeD (i := 21) (oi := _) (d := 78) (v := ?vf21) rfl (by kernel_rfl) (by kernel_rfl) (by kernel_rfl) (by kernel_rfl) (fun _ _ _ h => h) (Or.inl ⟨by kernel_rfl, ?yf21⟩) (by assumption) ?rf21
        case yf21 =>
          intro w' hSw
          try dsimp only at hSw
          go_simp
          try with_reducible rfl
        try simp only [Act.put, List.setIfInBounds_toArray, List.set_cons_zero, List.set_cons_succ]
        refine wpAnyH_takeD (i := 22) (oi := _) (d := 79) (v := ?vf22) rfl (by kernel_rfl) (by kernel_rfl) (by kernel_rfl) (by kernel_rfl) (fun _ _ _ h => h) (Or.inl ⟨by kernel_rfl, ?yf22⟩) (by assumption) ?rf22
        case yf22 =>
          intro w' hSw
          try dsimp only at hSw
          go_simp
          try with_reducible rfl
        try simp only [Act.put, List.setIfInBounds_toArray, List.set_cons_zero, List.set_cons_succ]
        refine wpAnyH_done (by kernel_rfl) ?_ _
        go_wp2_with fail
        go_roundg (min sts.length 600 - (j + 1))
        case measure => have := Hj.out; omega
        case rel => exact ⟨j + 1, O', by have := Hj.out; omega, by go_num, HB4.out, by omega, hb.trans hz4⟩
      · have hbD := (Below.refl wr.heap.size wr).drew
        have hst1 := hst wr.drew hbD
        have kp : ∀ W, Below w.heap.size wr W → (Below w.heap.size wr W ∧ W.cell? ⟨sb, so + j * 6, none⟩ = some (.int .i64 x1) ∧ W.cell? ⟨sb, so + j * 6 + 1, none⟩ = some (.int .i64 x2) ∧ W.cell? ⟨sb, so + j * 6 + 2, none⟩ = some (.string x3) ∧ W.cell? ⟨sb, so + j * 6 + 3, none⟩ = some (.int .i64 x4) ∧ W.cell? ⟨sb, so + j * 6 + 4, none⟩ = some (.int .i64 x5) ∧ W.cell? ⟨sb, so + j * 6 + 5, none⟩ = some (.slice x6 x8.length x7)) := by
          intro W hW
          have hk : ∀ off, W.cell? ⟨sb, off, none⟩ = wr.cell? ⟨sb, off, none⟩ := fun off => hW.cell (p := ⟨sb, off, none⟩) hsb
          exact ⟨hW, (hk _).trans d0, (hk _).trans d1, (hk _).trans d2, (hk _).trans d3, (hk _).trans d4, (hk _).trans d5⟩
        have kD := kp _ (hbD.mono hb.size)
        clear hst
        go_wp2_with fail
        refine wp_region_held_drew (S := fun W => Below w.heap.size wr W ∧ W.cell? ⟨sb, so + j * 6, none⟩ = some (.int .i64 x1) ∧ W.cell? ⟨sb, so + j * 6 + 1, none⟩ = some (.int .i64 x2) ∧ W.cell? ⟨sb, so + j * 6 + 2, none⟩ = some (.string x3) ∧ W.cell? ⟨sb, so + j * 6 + 3, none⟩ = some (.int .i64 x4) ∧ W.cell? ⟨sb, so + j * 6 + 4, none⟩ = some (.int .i64 x5) ∧ W.cell? ⟨sb, so + j * 6 + 5, none⟩ = some (.slice x6 x8.length x7)) (by kernel_rfl) kD (fun hHeld => ?_)
        refine wpAnyH_takeD (i := 0) (oi := _) (d := 57) (v := ?vt0) rfl (by kernel_rfl) (by kernel_rfl) (by kernel_rfl) (by kernel_rfl) (fun _ _ _ h => h) (Or.inl ⟨by kernel_rfl, ?yt0⟩) (by assumption) ?rt0
        case yt0 =>
          intro w' hSw
          try dsimp only at hSw
          go_simp
          try with_reducible rfl
        try simp only [Act.put, List.setIfInBounds_toArray, List.set_cons_zero, List.set_cons_succ]
        refine wpAnyH_takeD (i := 1) (oi := _) (d := 58) (v := ?vt1) rfl (by kernel_rfl) (by kernel_rfl) (by kernel_rfl) (by kernel_rfl) (fun _ _ _ h => h) (Or.inl ⟨by kernel_rfl, ?yt1⟩) (by assumption) ?rt1
        case yt1 =>
          intro w' hSw
          try dsimp only at hSw
          go_simp
          try with_reducible rfl
        try simp only [Act.put, List.setIfInBounds_toArray, List.set_cons_zero, List.set_cons_succ]
        refine wpAnyH_takeD (i := 2) (oi := _) (d := 59) (v := ?vt2) rfl (by kernel_rfl) (by kernel_rfl) (by kernel_rfl) (by kernel_rfl) (fun _ _ _ h => h) (Or.inl ⟨by kernel_rfl, ?yt2⟩) (by assumption) ?rt2
        case yt2 =>
          intro w' hSw
          try dsimp only at hSw
          go_simp
          try with_reducible rfl
        try simp only [Act.put, List.setIfInBounds_toArray, List.set_cons_zero, List.set_cons_succ]
        refine wpAnyH_takeD (i := 3) (oi := _) (d := 60) (v := ?vt3) rfl (by kernel_rfl) (by kernel_rfl) (by kernel_rfl) (by kernel_rfl) (fun _ _ _ h => h) (Or.inl ⟨by kernel_rfl, ?yt3⟩) (by assumption) ?rt3
        case yt3 =>
          intro w' hSw
          try dsimp only at hSw
          go_simp
          try with_reducible rfl
        try simp only [Act.put, List.setIfInBounds_toArray, List.set_cons_zero, List.set_cons_succ]
        refine wpAnyH_takeD (i := 4) (oi := _) (d := 61) (v := ?vt4) rfl (by kernel_rfl) (by kernel_rfl) (by kernel_rfl) (by kernel_rfl) (fun _ _ _ h => h) (Or.inl ⟨by kernel_rfl, ?yt4⟩) (by assumption) ?rt4
        case yt4 =>
          intro w' hSw
          try dsimp only at hSw
          go_simp
          try with_reducible rfl
        try simp only [Act.put, List.setIfInBounds_toArray, List.set_cons_zero, List.set_cons_succ]
        refine wpAnyH_takeD (i := 5) (oi := _) (d := 62) (v := ?vt5) rfl (by kernel_rfl) (by kernel_rfl) (by kernel_rfl) (by kernel_rfl) (fun _ _ _ h => h) (Or.inl ⟨by kernel_rfl, ?yt5⟩) (by assumption) ?rt5
        case yt5 =>
          intro w' hSw
          try dsimp only at hSw
          go_simp
          try with_reducible rfl
        try simp only [Act.put, List.setIfInBounds_toArray, List.set_cons_zero, List.set_cons_succ]
        refine wpAnyH_ready (rs := [6]) (by kernel_rfl) (by simp) ?_
        refine AllReadyH.cons (o := _) rfl (fun K hK => ?_) AllReadyH.nil
        go_simp
        go_at_call 20
        refine hst1.mono ?_
        rintro e w4 ⟨rfl, O', hB4, hb4, hl4⟩
        have hz4 := (hbD.mono hb.size).trans hb4
        have hk4 := kp _ hz4
        have HB4 := Lib.hid hB4
        clear hB4 hst1
        refine hK.out _ _ hk4 (fun _ => ?_)
        clear hK K
        try simp only [Act.put, List.setIfInBounds_toArray, List.set_cons_zero, List.set_cons_succ]
        obtain ⟨av, vcap, la, lcap, _, _, _, hls, _, _, _, _, _, c2⟩ := HB4.out.rf.sl
        have kq : ∀ W, Below w4.heap.size w4 W → ((Below w.heap.size wr W ∧ W.cell? ⟨sb, so + j * 6, none⟩ = some (.int .i64 x1) ∧ W.cell? ⟨sb, so + j * 6 + 1, none⟩ = some (.int .i64 x2) ∧ W.cell? ⟨sb, so + j * 6 + 2, none⟩ = some (.string x3) ∧ W.cell? ⟨sb, so + j * 6 + 3, none⟩ = some (.int .i64 x4) ∧ W.cell? ⟨sb, so + j * 6 + 4, none⟩ = some (.int .i64 x5) ∧ W.cell? ⟨sb, so + j * 6 + 5, none⟩ = some (.slice x6 x8.length x7)) ∧ W.cell? ⟨r.rp, 2, none⟩ = some (.slice la O'.live.length lcap)) := by
          intro W hW
          exact ⟨kp _ (hz4.trans (hW.mono (Nat.le_trans hb.size hz4.size))), (hW.cell HB4.out.rf.lt.1).trans c2⟩
        have hlive := live_both HB4.out (by omega)
        have hsame : ∀ W o cap, Sl 3 cellL W o O'.live → Below w4.heap.size w4 W → Calls Try.prog 21 #[.slice o O'.live.length cap, .slice la O'.live.length lcap] W fun e w' => e = .returned (.bool true) ∧ Below W.heap.size W w' := by
          intro W o cap h1 h2
          have h3 := same_any o cap O'.live la lcap O'.live W h1 (hls.below h2) (by omega)
          rw [decide_eq_true rfl] at h3
          exact h3
        have hk5 := kq _ (Below.refl _ _)
        generalize hLe : O'.live = L at *
        have HLe := Lib.hid hLe
        clear hls c2 kp hk4 kD hLe
        refine wpAnyH_strong (S' := fun W => (Below w.heap.size wr W ∧ W.cell? ⟨sb, so + j * 6, none⟩ = some (.int .i64 x1) ∧ W.cell? ⟨sb, so + j * 6 + 1, none⟩ = some (.int .i64 x2) ∧ W.cell? ⟨sb, so + j * 6 + 2, none⟩ = some (.string x3) ∧ W.cell? ⟨sb, so + j * 6 + 3, none⟩ = some (.int .i64 x4) ∧ W.cell? ⟨sb, so + j * 6 + 4, none⟩ = some (.int .i64 x5) ∧ W.cell? ⟨sb, so + j * 6 + 5, none⟩ = some (.slice x6 x8.length x7)) ∧ W.cell? ⟨r.rp, 2, none⟩ = some (.slice la L.length lcap)) (fun _ h => h.1) _ _ _ _ ?_
        refine wpAnyH_takeD (i := 7) (oi := _) (d := 64) (v := ?vt7) rfl (by kernel_rfl) (by kernel_rfl) (by kernel_rfl) (by kernel_rfl) (fun _ _ _ h => h) (Or.inl ⟨by kernel_rfl, ?yt7⟩) (by assumption) ?rt7
        case yt7 =>
          intro w' hSw
          try dsimp only at hSw
          go_simp
          try with_reducible rfl
        try simp only [Act.put, List.setIfInBounds_toArray, List.set_cons_zero, List.set_cons_succ]
        refine wpAnyH_takeD (i := 8) (oi := _) (d := 65) (v := ?vt8) rfl (by kernel_rfl) (by kernel_rfl) (by kernel_rfl) (by kernel_rfl) (fun _ _ _ h => h) (Or.inl ⟨by kernel_rfl, ?yt8⟩) (by assumption) ?rt8
        case yt8 =>
          intro w' hSw
          try dsimp only at hSw
          go_simp
          try with_reducible rfl
        try simp only [Act.put, List.setIfInBounds_toArray, List.set_cons_zero, List.set_cons_succ]
        refine wpAnyH_takeD (i := 9) (oi := _) (d := 66) (v := ?vt9) rfl (by kernel_rfl) (by kernel_rfl) (by kernel_rfl) (by kernel_rfl) (fun _ _ _ h => h) (Or.inl ⟨by kernel_rfl, ?yt9⟩) (by assumption) ?rt9
        case yt9 =>
          intro w' hSw
          try dsimp only at hSw
          go_simp
          try with_reducible rfl
        try simp only [Act.put, List.setIfInBounds_toArray, List.set_cons_zero, List.set_cons_succ]
        refine wpAnyH_takeD (i := 10) (oi := _) (d := 67) (v := ?vt10) rfl (by kernel_rfl) (by kernel_rfl) (by kernel_rfl) (by kernel_rfl) (fun _ _ _ h => h) (Or.inl ⟨by kernel_rfl, ?yt10⟩) (by assumption) ?rt10
        case yt10 =>
          intro w' hSw
          try dsimp only at hSw
          go_simp
          try with_reducible rfl
        try simp only [Act.put, List.setIfInBounds_toArray, List.set_cons_zero, List.set_cons_succ]
        refine wpAnyH_takeD (i := 11) (oi := _) (d := 68) (v := ?vt11) rfl (by kernel_rfl) (by kernel_rfl) (by kernel_rfl) (by kernel_rfl) (fun _ _ _ h => h) (Or.inl ⟨by kernel_rfl, ?yt11⟩) (by assumption) ?rt11
        case yt11 =>
          intro w' hSw
          try dsimp only at hSw
          go_simp
          try with_reducible rfl
        try simp only [Act.put, List.setIfInBounds_toArray, List.set_cons_zero, List.set_cons_succ]
        refine wpAnyH_takeD (i := 12) (oi := _) (d := 69) (v := ?vt12) rfl (by kernel_rfl) (by kernel_rfl) (by kernel_rfl) (by kernel_rfl) (fun _ _ _ h => h) (Or.inl ⟨by kernel_rfl, ?yt12⟩) (by assumption) ?rt12
        case yt12 =>
          intro w' hSw
          try dsimp only at hSw
          go_simp
          try with_reducible rfl
        try simp only [Act.put, List.setIfInBounds_toArray, List.set_cons_zero, List.set_cons_succ]
        refine wpAnyH_takeD (i := 13) (oi := _) (d := 70) (v := ?vt13) rfl (by kernel_rfl) (by kernel_rfl) (by kernel_rfl) (by kernel_rfl) (fun _ _ _ h => h) (Or.inl ⟨by kernel_rfl, ?yt13⟩) (by assumption) ?rt13
        case yt13 =>
          intro w' hSw
          try dsimp only at hSw
          go_simp
          try with_reducible rfl
        try simp only [Act.put, List.setIfInBounds_toArray, List.set_cons_zero, List.set_cons_succ]
        refine wpAnyH_takeD (i := 15) (oi := _) (d := 72) (v := ?vt15) rfl (by kernel_rfl) (by kernel_rfl) (by kernel_rfl) (by kernel_rfl) (fun _ _ _ h => h) (Or.inl ⟨by kernel_rfl, ?yt15⟩) (by assumption) ?rt15
        case yt15 =>
          intro w' hSw
          try dsimp only at hSw
          go_simp
          try with_reducible rfl
        try simp only [Act.put, List.setIfInBounds_toArray, List.set_cons_zero, List.set_cons_succ]
        refine wpAnyH_takeD (i := 16) (oi := _) (d := 73) (v := ?vt16) rfl (by kernel_rfl) (by kernel_rfl) (by kernel_rfl) (by kernel_rfl) (fun _ _ _ h => h) (Or.inl ⟨by kernel_rfl, ?yt16⟩) (by assumption) ?rt16
        case yt16 =>
          intro w' hSw
          try dsimp only at hSw
          go_simp
          try with_reducible rfl
        try simp only [Act.put, List.setIfInBounds_toArray, List.set_cons_zero, List.set_cons_succ]
        refine wpAnyH_takeD (i := 17) (oi := _) (d := 74) (v := ?vt17) rfl (by kernel_rfl) (by kernel_rfl) (by kernel_rfl) (by kernel_rfl) (fun _ _ _ h => h) (Or.inl ⟨by kernel_rfl, ?yt17⟩) (by assumption) ?rt17
        case yt17 =>
          intro w' hSw
          try dsimp only at hSw
          go_simp
          try with_reducible rfl
        try simp only [Act.put, List.setIfInBounds_toArray, List.set_cons_zero, List.set_cons_succ]
        refine wpAnyH_takeD (i := 18) (oi := _) (d := 75) (v := ?vt18) rfl (by kernel_rfl) (by kernel_rfl) (by kernel_rfl) (by kernel_rfl) (fun _ _ _ h => h) (Or.inl ⟨by kernel_rfl, ?yt18⟩) (by assumption) ?rt18
        case yt18 =>
          intro w' hSw
          try dsimp only at hSw
          go_simp
          try with_reducible rfl
        try simp only [Act.put, List.setIfInBounds_toArray, List.set_cons_zero, List.set_cons_succ]
        refine wpAnyH_ready (rs := [14]) (by kernel_rfl) (by simp) ?_
        refine AllReadyH.cons (o := _) rfl (fun K hK => ?_) AllReadyH.nil
        go_simp
        go_at_call 22
        refine hlive.mono ?_
        rintro e w5 ⟨o5, cap5, rfl, hs5, hb5⟩
        have hk6 := kq _ hb5
        refine hK.out _ _ hk6 (fun _ => ?_)
        clear hK K
        try simp only [Act.put, List.setIfInBounds_toArray, List.set_cons_zero, List.set_cons_succ]
        refine wpAnyH_ready (rs := [19]) (by kernel_rfl) (by simp) ?_
        refine AllReadyH.cons (o := _) rfl (fun K hK => ?_) AllReadyH.nil
        go_simp
        go_at_call 21
        refine (hsame _ _ _ hs5 hb5).mono ?_
        rintro e w6 ⟨rfl, hb6⟩
        have hb46 := hb5.trans (hb6.mono hb5.size)
        have hk7 := kq _ hb46
        refine hK.out _ _ hk7 (fun _ => ?_)
        clear hK K
        try simp only [Act.put, List.setIfInBounds_toArray, List.set_cons_zero, List.set_cons_succ]
        refine wpAnyH_takeD (i := 20) (oi := _) (d := 77) (v := ?vt20) rfl (by kernel_rfl) (by kernel_rfl) (by kernel_rfl) (by kernel_rfl) (fun _ _ _ h => h) (Or.inl ⟨by kernel_rfl, ?yt20⟩) (by assumption) ?rt20
        case yt20 =>
          intro w' hSw
          try dsimp only at hSw
          go_simp
          try with_reducible rfl
        try simp only [Act.put, List.setIfInBounds_toArray, List.set_cons_zero, List.set_cons_succ]
        refine wpAnyH_takeD (i := 21) (oi := _) (d := 78) (v := ?vt21) rfl (by kernel_rfl) (by kernel_rfl) (by kernel_rfl) (by kernel_rfl) (fun _ _ _ h => h) (Or.inl ⟨by kernel_rfl, ?yt21⟩) (by assumption) ?rt21
        case yt21 =>
          intro w' hSw
          try dsimp only at hSw
          go_simp
          try with_reducible rfl
        try simp only [Act.put, List.setIfInBounds_toArray, List.set_cons_zero, List.set_cons_succ]
        refine wpAnyH_takeD (i := 22) (oi := _) (d := 79) (v := ?vt22) rfl (by kernel_rfl) (by kernel_rfl) (by kernel_rfl) (by kernel_rfl) (fun _ _ _ h => h) (Or.inl ⟨by kernel_rfl, ?yt22⟩) (by assumption) ?rt22
        case yt22 =>
          intro w' hSw
          try dsimp only at hSw
          go_simp
          try with_reducible rfl
        try simp only [Act.put, List.setIfInBounds_toArray, List.set_cons_zero, List.set_cons_succ]
        refine wpAnyH_done (by kernel_rfl) ?_ _
        go_wp2_with fail
        go_roundg (min sts.length 600 - (j + 1))
        case measure => have := Hj.out; omega
        case rel => exact ⟨j + 1, O', by have := Hj.out; omega, by go_num, HB4.out.below hb46, by rw [HLe.out]; omega, hb.trans (hz4.trans (hb46.mono (Nat.le_trans hb.size hz4.size)))⟩
    · have hjm : j = min sts.length 600 := by have := Hj.out; omega
      obtain ⟨av, vcap, la, lcap, _, _, _, hls, _, _, _, _, _, c2⟩ := HB2.out.rf.sl
      have hltr := HB2.out.rf.lt.1
      have hlive : ∀ W, Both w.heap.size W b r O → Calls Try.prog 22 #[.pointer (some ⟨b.bp, 0, none⟩)] W fun e w' => ∃ o cap, e = .returned (.slice o O.live.length cap) ∧ Sl 3 cellL w' o O.live ∧ Below W.heap.size W w' := by
        intro W hW
        refine (live_any b O W hW.op (by omega)).mono ?_
        rintro e w' ⟨v, rfl, ho, hb⟩
        obtain ⟨o, cap, rfl, _, hs, _, _⟩ := ho.sl fun _ => rfl
        exact ⟨o, cap, rfl, hs, hb⟩
      have hsame : ∀ W o cap, Sl 3 cellL W o O.live → Sl 3 cellL W la O.live → Calls Try.prog 21 #[.slice o O.live.length cap, .slice la O.live.length lcap] W fun e w' => e = .returned (.bool true) ∧ Below W.heap.size W w' := by
        intro W o cap h1 h2
        have h3 := same_any o cap O.live la lcap O.live W h1 h2 (by omega)
        rw [decide_eq_true rfl] at h3
        exact h3
      have hl1 : ∀ W, Both w.heap.size W b r O → _ := fun W hW => operLeast_any b O W hW.op
      have hl2 : ∀ W, Both w.heap.size W b r O → _ := fun W hW => refLeast_any r O W hW.rf
      have kp : ∀ W, Below wr.heap.size wr W → (Both w.heap.size W b r O ∧ Below wr.heap.size wr W ∧ W.cell? ⟨r.rp, 2, none⟩ = some (.slice la O.live.length lcap) ∧ Sl 3 cellL W la O.live) := by
        intro W hW
        exact ⟨HB2.out.below hW, hW, (hW.cell hltr).trans c2, hls.below hW⟩
      have hk0 := kp wr (Below.refl _ _)
      have hbD := (Below.refl wr.heap.size wr).drew
      have hzb := hb.size
      generalize O.live = L at *
      generalize leastOf O.ms = lm at *
      have heq : (lm == lm) = true := by simp
      clear hls c2
      rcases Nat.lt_or_ge j sts.length with h7 | h7
      · have h8 : ¬ (j : Int) < 600 := by omega
        go_wp2_with fail
        go_region_held3 (fun W => Both w.heap.size W b r O ∧ Below wr.heap.size wr W ∧ W.cell? ⟨r.rp, 2, none⟩ = some (.slice la L.length lcap) ∧ Sl 3 cellL W la L) (first | exact kp _ hbD | assumption)
          (first
            | (go_at_call 22; refine (hlive _ (And.left (by assumption))).mono ?_; rintro e w4 ⟨o4, cap4, rfl, hs4, hb4⟩; have hk4 := kp _ (Below.trans hbD (hb4.mono hbD.size)))
            | (go_at_call 21; refine (hsame _ _ _ (by assumption) (And.right (And.right (And.right (by assumption))))).mono ?_; rintro e w5 ⟨rfl, hb5⟩; have hk5 := kp _ (hk4.2.1.trans (hb5.mono hk4.2.1.size)))
            | (go_at_call 23; refine (hl1 _ (And.left (by assumption))).mono ?_; rintro e w' ⟨rfl, rfl⟩)
            | (go_at_call 24; refine (hl2 _ (And.left (by assumption))).mono ?_; rintro e w' ⟨rfl, rfl⟩))
        go_wp2_with fail
        go_ret
        exact ⟨rfl, hb.trans (hk5.2.1.mono hzb)⟩
      · have h8 : ¬ (j : Int) < (sts.length : Int) := by omega
        go_wp2_with fail
        go_region_held3 (fun W => Both w.heap.size W b r O ∧ Below wr.heap.size wr W ∧ W.cell? ⟨r.rp, 2, none⟩ = some (.slice la L.length lcap) ∧ Sl 3 cellL W la L) (first | exact kp _ hbD | assumption)
          (first
            | (go_at_call 22; refine (hlive _ (And.left (by assumption))).mono ?_; rintro e w4 ⟨o4, cap4, rfl, hs4, hb4⟩; have hk4 := kp _ (Below.trans hbD (hb4.mono hbD.size)))
            | (go_at_call 21; refine (hsame _ _ _ (by assumption) (And.right (And.right (And.right (by assumption))))).mono ?_; rintro e w5 ⟨rfl, hb5⟩; have hk5 := kp _ (hk4.2.1.trans (hb5.mono hk4.2.1.size)))
            | (go_at_call 23; refine (hl1 _ (And.left (by assumption))).mono ?_; rintro e w' ⟨rfl, rfl⟩)
            | (go_at_call 24; refine (hl2 _ (And.left (by assumption))).mono ?_; rintro e w' ⟨rfl, rfl⟩))
        go_wp2_with fail
        go_ret
        exact ⟨rfl, hb.trans (hk5.2.1.mono hzb)⟩

/-- THE LAW OperPlays, whatever its arguments. -/
theorem plays_any (A : Option Addr) (cap : Nat) (vs : List View) (n : Int) (S : Option Addr) (scap : Nat) (sts : List St) (w : World) (hs : Sl 3 viewL w A vs) (hA : Under w.heap.size A) (hl : vs.length ≤ 100000000)
    (hS : Sl 6 stL w S sts) (hok : ∀ s ∈ sts, StOk w s) (hsl : sts.length ≤ 100000000) :
    Calls Try.prog 7 #[.slice A vs.length cap, .int .i64 n, .slice S sts.length scap] w fun e w' => e = .returned (.bool true) ∧ Below w.heap.size w w' := by
  by_cases he : newE vs n = 0
  · exact plays_ok A cap vs n S scap sts w hs hA hl he hS hok hsl
  · exact plays_bad A cap vs n _ w hs hA hl he
end Go.Proofs.Ytheimbhnckaonaa
