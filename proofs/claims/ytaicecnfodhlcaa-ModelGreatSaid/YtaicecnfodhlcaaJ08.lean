/- right: is a configuration right? -/
import Derived.Test.YtaicecnfodhlcaaJ03
set_option linter.unusedVariables false
set_option linter.unusedSimpArgs false
namespace Go.Proofs.Ytaicecnfodhlcaa
open Go.RowKit Go.Deep

theorem chk0 {v : View} (h : v.ok = true) : v.chk = 0 := by unfold View.chk; rw [h]; rfl
theorem chk1 {v : View} (h : v.ok = false) : v.chk = 23 := by unfold View.chk; rw [h]; rfl
set_option maxHeartbeats 1000000 in
theorem in_any (n lo hi : Int) (w : World) : Calls Try.prog 58 #[.int .i64 n, .int .i64 lo, .int .i64 hi] w fun e w' => (∃ b, e = .returned (.bool b) ∧ b = inR n lo hi) ∧ w = w' := by
  by_cases h1 : lo ≤ n
  · by_cases h2 : n ≤ hi
    · go_enter Try.func58, Try.ntmps58
      go_wp2_with fail
      go_ret
      first | exact ⟨⟨_, rfl, by simp [inR, h1, h2]⟩, rfl⟩ | exact ⟨by simp [inR]; omega, rfl⟩ | exact ⟨by simp [inR, h1, h2], rfl⟩
    · go_enter Try.func58, Try.ntmps58
      go_wp2_with fail
      go_ret
      first | exact ⟨⟨_, rfl, by simp [inR, h1, h2]⟩, rfl⟩ | exact ⟨by simp [inR]; omega, rfl⟩ | exact ⟨by simp [inR, h1, h2], rfl⟩
  · go_enter Try.func58, Try.ntmps58
    go_wp2_with fail
    go_ret
    first | exact ⟨⟨_, rfl, by simp [inR, h1]⟩, rfl⟩ | exact ⟨by simp [inR]; omega, rfl⟩ | exact ⟨by simp [inR, h1], rfl⟩

set_option maxRecDepth 100000 in
set_option maxHeartbeats 8000000 in
theorem right_any (c : Cfg) (a : Option Addr) (cap : Nat) (w : World) (hs : Sl 3 viewL w a c.vs) (hl : c.vs.length ≤ 1000000000) :
    Calls Try.prog 27 #[cfgV c a cap] w fun e w' => e = .returned (.bool c.right) ∧ Below w.heap.size w w' := by
  have hb0 : Below w.heap.size w (w.alloc (cfgO c a cap)) := (Below.refl _ _).alloc (Nat.le_refl _) _
  have hz0 : (w.alloc (cfgO c a cap)).heap.size = w.heap.size + 1 := by simp
  have hf0 : (w.alloc (cfgO c a cap)).heap[w.heap.size]? = some (cfgO c a cap) := blk_at rfl
  obtain ⟨vs, so, op, sh, sl, bx, ad, pi, ch, fr, inn, out⟩ := c
  dsimp only at *
  have Hb0 := Lib.hid hb0
  have Hf0 := Lib.hid hf0
  clear hb0 hf0
  go_enter Try.func27, Try.ntmps27
  go_wp2_with fail
  generalize hW0 : w.alloc (.cells #[.slice a vs.length cap, .int .i64 so, .int .i64 op, .int .i64 sh, .int .i64 sl, .int .i64 bx, .int .i64 ad, .int .i64 pi, .int .i64 ch, .int .i64 fr, .int .i64 inn, .int .i64 out] 26) = W0 at *
  clear hW0
  go_loopg [5, 9] vs.length (fun g _ i wr => ∃ j : Nat, j + g = vs.length ∧ i = .int .i64 j ∧ (∀ i (hi : i < vs.length), i < j → vs[i].ok = true) ∧ Below W0.heap.size W0 wr)
  case atStart => exact ⟨0, by omega, rfl, fun i _ h => absurd h (Nat.not_lt_zero _), Below.refl _ _⟩
  case round =>
    obtain ⟨j, hj, rfl, hall, hb⟩ := hrel
    have Hj := Lib.hid hj
    have Hall := Lib.hid hall
    have hzb := hb.size
    have Hb := Lib.hid (Hb0.out.trans (hb.mono (by omega)))
    have Hf := Lib.hid ((hb.block w.heap.size (by omega)).trans Hf0.out)
    clear hj hall
    by_cases hlt : j < vs.length
    · obtain ⟨ob, oo, rfl, hob, h0, h1, h2⟩ := hs.at3 hlt rfl
      have d0 := (Hb.out.cell (p := ⟨ob, _, none⟩) hob).trans h0
      have d1 := (Hb.out.cell (p := ⟨ob, _, none⟩) hob).trans h1
      have d2 := (Hb.out.cell (p := ⟨ob, _, none⟩) hob).trans h2
      clear h0 h1 h2
      have hc := fun W => check_any vs[j].size vs[j].slide vs[j].late W
      rw [show View.chk ⟨vs[j].size, vs[j].slide, vs[j].late⟩ = View.chk vs[j] from rfl] at hc
      cases hz : vs[j].ok
      · rw [chk1 hz] at hc
        have Hz := Lib.hid hz
        have hfin : Cfg.right ⟨vs, so, op, sh, sl, bx, ad, pi, ch, fr, inn, out⟩ = false := by
          unfold Cfg.right
          have : vs.all View.ok = false := by
            rw [List.all_eq_false]
            exact ⟨vs[j], List.getElem_mem hlt, by rw [hz]; simp⟩
          rw [this]
          rfl
        have Hfin := Lib.hid hfin
        clear hz hfin
        generalize vs[j].size = x at *
        generalize vs[j].slide = y at *
        generalize vs[j].late = z at *
        go_wp2_with fail
        refine (hc _).mono ?_
        rintro e w1 ⟨rfl, hb1⟩
        go_wp2_with fail
        try rw [Exit.noGoto_ret]
        go_ret
        rw [Hfin.out]
        exact ⟨rfl, (Hb.out.alloc Hb.out.size _).trans (hb1.mono (by have := Hb.out.size; simp; omega))⟩
      · rw [chk0 hz] at hc
        have Hz := Lib.hid hz
        clear hz
        generalize vs[j].size = x at *
        generalize vs[j].slide = y at *
        generalize vs[j].late = z at *
        go_wp2_with fail
        refine (hc _).mono ?_
        rintro e w1 ⟨rfl, hb1⟩
        go_wp2_with fail
        go_roundg (gk - 1)
        case measure => have := Hj.out; omega
        case rel =>
          refine ⟨j + 1, by have := Hj.out; omega, by go_num, fun i hi hij => ?_, (hb.alloc hzb _).trans (hb1.mono (by simp; omega))⟩
          by_cases e : i = j
          · subst e; exact Hz.out
          · exact Hall.out i hi (by omega)
    · have hallb : vs.all View.ok = true := by
        rw [List.all_eq_true]
        intro v hv
        obtain ⟨i, hi, rfl⟩ := List.getElem_of_mem hv
        exact Hall.out i hi (by have := Hj.out; omega)
      have Hallb := Lib.hid hallb
      have q0 := cell_blk Hf.out 0
      have q1 := cell_blk Hf.out 1
      have q2 := cell_blk Hf.out 2
      have q3 := cell_blk Hf.out 3
      have q4 := cell_blk Hf.out 4
      have q5 := cell_blk Hf.out 5
      have q6 := cell_blk Hf.out 6
      have q7 := cell_blk Hf.out 7
      have q8 := cell_blk Hf.out 8
      have q9 := cell_blk Hf.out 9
      have q10 := cell_blk Hf.out 10
      have q11 := cell_blk Hf.out 11
      simp at q0 q1 q2 q3 q4 q5 q6 q7 q8 q9 q10 q11
      clear hallb hb Hall Hj
      go_wp2_with fail
      refine (in_any _ _ _ _).mono ?_
      rintro e w1 ⟨⟨b1, rfl, hb1⟩, rfl⟩
      have H1 := Lib.hid hb1
      clear hb1
      cases b1
      · go_wp2_with fail
        go_ret
        refine ⟨ret_bool ?_, Hb.out⟩
        unfold Cfg.right Cfg.nums
        rw [Hallb.out, ← H1.out]
        simp
      · skip
        go_wp2_with fail
        refine (in_any _ _ _ _).mono ?_
        rintro e w2 ⟨⟨b2, rfl, hb2⟩, rfl⟩
        have H2 := Lib.hid hb2
        clear hb2
        cases b2
        · go_wp2_with fail
          go_ret
          refine ⟨ret_bool ?_, Hb.out⟩
          unfold Cfg.right Cfg.nums
          rw [Hallb.out, ← H1.out, ← H2.out]
          simp
        · skip
          go_wp2_with fail
          refine (in_any _ _ _ _).mono ?_
          rintro e w3 ⟨⟨b3, rfl, hb3⟩, rfl⟩
          have H3 := Lib.hid hb3
          clear hb3
          cases b3
          · go_wp2_with fail
            go_ret
            refine ⟨ret_bool ?_, Hb.out⟩
            unfold Cfg.right Cfg.nums
            rw [Hallb.out, ← H1.out, ← H2.out, ← H3.out]
            simp
          · skip
            go_wp2_with fail
            refine (in_any _ _ _ _).mono ?_
            rintro e w4 ⟨⟨b4, rfl, hb4⟩, rfl⟩
            have H4 := Lib.hid hb4
            clear hb4
            cases b4
            · go_wp2_with fail
              go_ret
              refine ⟨ret_bool ?_, Hb.out⟩
              unfold Cfg.right Cfg.nums
              rw [Hallb.out, ← H1.out, ← H2.out, ← H3.out, ← H4.out]
              simp
            · skip
              go_wp2_with fail
              refine (in_any _ _ _ _).mono ?_
              rintro e w5 ⟨⟨b5, rfl, hb5⟩, rfl⟩
              have H5 := Lib.hid hb5
              clear hb5
              cases b5
              · go_wp2_with fail
                go_ret
                refine ⟨ret_bool ?_, Hb.out⟩
                unfold Cfg.right Cfg.nums
                rw [Hallb.out, ← H1.out, ← H2.out, ← H3.out, ← H4.out, ← H5.out]
                simp
              · skip
                go_wp2_with fail
                refine (in_any _ _ _ _).mono ?_
                rintro e w6 ⟨⟨b6, rfl, hb6⟩, rfl⟩
                have H6 := Lib.hid hb6
                clear hb6
                cases b6
                · go_wp2_with fail
                  go_ret
                  refine ⟨ret_bool ?_, Hb.out⟩
                  unfold Cfg.right Cfg.nums
                  rw [Hallb.out, ← H1.out, ← H2.out, ← H3.out, ← H4.out, ← H5.out, ← H6.out]
                  simp
                · skip
                  go_wp2_with fail
                  refine (in_any _ _ _ _).mono ?_
                  rintro e w7 ⟨⟨b7, rfl, hb7⟩, rfl⟩
                  have H7 := Lib.hid hb7
                  clear hb7
                  cases b7
                  · go_wp2_with fail
                    go_ret
                    refine ⟨ret_bool ?_, Hb.out⟩
                    unfold Cfg.right Cfg.nums
                    rw [Hallb.out, ← H1.out, ← H2.out, ← H3.out, ← H4.out, ← H5.out, ← H6.out, ← H7.out]
                    simp
                  · skip
                    go_wp2_with fail
                    refine (in_any _ _ _ _).mono ?_
                    rintro e w8 ⟨⟨b8, rfl, hb8⟩, rfl⟩
                    have H8 := Lib.hid hb8
                    clear hb8
                    cases b8
                    · go_wp2_with fail
                      go_ret
                      refine ⟨ret_bool ?_, Hb.out⟩
                      unfold Cfg.right Cfg.nums
                      rw [Hallb.out, ← H1.out, ← H2.out, ← H3.out, ← H4.out, ← H5.out, ← H6.out, ← H7.out, ← H8.out]
                      simp
                    · skip
                      go_wp2_with fail
                      refine (in_any _ _ _ _).mono ?_
                      rintro e w9 ⟨⟨b9, rfl, hb9⟩, rfl⟩
                      have H9 := Lib.hid hb9
                      clear hb9
                      cases b9
                      · go_wp2_with fail
                        go_ret
                        refine ⟨ret_bool ?_, Hb.out⟩
                        unfold Cfg.right Cfg.nums
                        rw [Hallb.out, ← H1.out, ← H2.out, ← H3.out, ← H4.out, ← H5.out, ← H6.out, ← H7.out, ← H8.out, ← H9.out]
                        simp
                      · skip
                        go_wp2_with fail
                        refine (in_any _ _ _ _).mono ?_
                        rintro e w10 ⟨⟨b10, rfl, hb10⟩, rfl⟩
                        have H10 := Lib.hid hb10
                        clear hb10
                        cases b10
                        · go_wp2_with fail
                          go_ret
                          refine ⟨ret_bool ?_, Hb.out⟩
                          unfold Cfg.right Cfg.nums
                          rw [Hallb.out, ← H1.out, ← H2.out, ← H3.out, ← H4.out, ← H5.out, ← H6.out, ← H7.out, ← H8.out, ← H9.out, ← H10.out]
                          simp
                        · skip
                          go_wp2_with fail
                          refine (in_any _ _ _ _).mono ?_
                          rintro e w11 ⟨⟨b11, rfl, hb11⟩, rfl⟩
                          have H11 := Lib.hid hb11
                          clear hb11
                          cases b11
                          · go_wp2_with fail
                            go_ret
                            refine ⟨ret_bool ?_, Hb.out⟩
                            unfold Cfg.right Cfg.nums
                            rw [Hallb.out, ← H1.out, ← H2.out, ← H3.out, ← H4.out, ← H5.out, ← H6.out, ← H7.out, ← H8.out, ← H9.out, ← H10.out, ← H11.out]
                            simp
                          · skip
                            go_wp2_with fail
                            refine (in_any _ _ _ _).mono ?_
                            rintro e w12 ⟨⟨b12, rfl, hb12⟩, rfl⟩
                            have H12 := Lib.hid hb12
                            clear hb12
                            cases b12
                            · go_wp2_with fail
                              go_ret
                              refine ⟨ret_bool ?_, Hb.out⟩
                              unfold Cfg.right Cfg.nums
                              rw [Hallb.out, ← H1.out, ← H2.out, ← H3.out, ← H4.out, ← H5.out, ← H6.out, ← H7.out, ← H8.out, ← H9.out, ← H10.out, ← H11.out, ← H12.out]
                              simp
                            · go_wp2_with fail
                              go_ret
                              refine ⟨ret_bool ?_, Hb.out⟩
                              unfold Cfg.right Cfg.nums
                              rw [Hallb.out, ← H1.out, ← H2.out, ← H3.out, ← H4.out, ← H5.out, ← H6.out, ← H7.out, ← H8.out, ← H9.out, ← H10.out, ← H11.out, ← H12.out]
                              simp
end Go.Proofs.Ytaicecnfodhlcaa
