/- At. -/
import Derived.Test.YtaicecnfodhlcaaGreatJ03
set_option linter.unusedVariables false
set_option linter.unusedSimpArgs false
namespace Go.Proofs.YtaicecnfodhlcaaGreat
open Go.RowKit Go.Deep

set_option maxHeartbeats 1000000 in
theorem mAt_any {w : World} {B : MB} {S : Mst} (h : IsModel w B S) (x : Int) (hmax : ∀ L, S.seals x = some L → L.length ≤ 100000000) : Calls Tryz.prog 23 #[.pointer (some ⟨B.mp, 0, none⟩), .int .i64 x] w fun e w' => ∃ v, e = .returned (.tuple #[v, .bool (S.seals x).isSome]) ∧ Own 93 7 rowL w.heap.size w' v ((S.seals x).getD []) ∧ Below w.heap.size w w' := by
  have hget := h.seals.get x true
  simp only [if_true] at hget
  obtain ⟨_, _, _, _, _, _, _, _, c16, _⟩ := h.obj.cells
  have hr : ∀ v, v = sealV B S x → Calls Tryz.prog 48 #[v, .func (.func 49) #[] #[]] w fun e w' => ∃ v, e = .returned v ∧ Own 93 7 rowL w.heap.size w' v ((S.seals x).getD []) ∧ Below w.heap.size w w' := by
    rintro _ rfl
    unfold sealV
    cases hs : S.seals x with
    | none =>
      refine (rows_nil _ w).mono ?_
      rintro e w1 ⟨rfl, hb⟩
      exact ⟨_, rfl, Own.nil _ _ _ _ _, hb⟩
    | some L =>
      obtain ⟨m, hm, h1, h2⟩ := h.seals.map
      have hr := rows_all (B.sk x) L w (h1 x L hs).2.1 (h.inv.sok x L hs).1 (hmax L hs)
      rw [filter_allP] at hr
      simpa using hr
  clear h
  generalize S.seals x = q at *
  generalize hvs : sealV B S x = v0 at *
  have hr2 := hr v0 rfl
  clear hr hvs hmax
  go_enter Tryz.func23, Tryz.ntmps23
  go_wp2_with fail
  refine hr2.mono ?_
  rintro e w1 ⟨v, rfl, ho, hb⟩
  obtain ⟨o, cap, rfl, _⟩ := ho.sl fun _ => rfl
  have Ho := Lib.hid ho
  clear ho
  go_wp2_with fail
  go_ret2
  exact ⟨_, rfl, Ho.out, hb⟩
end Go.Proofs.YtaicecnfodhlcaaGreat
/- The document's right: its parts. -/
set_option linter.unusedVariables false
set_option linter.unusedSimpArgs false
namespace Go.Proofs.YtaicecnfodhlcaaGreat
open Go.RowKit Go.Deep

set_option maxHeartbeats 4000000 in
theorem refCheck_any (a b c : Int) (w : World) : Calls Tryz.prog 41 #[.agg #[.int .i64 a, .int .i64 b, .int .i64 c]] w fun e w' => e = .returned (.int .i64 (View.chk ⟨a, b, c⟩)) ∧ Below w.heap.size w w' := by
  go_enter Tryz.func41, Tryz.ntmps41
  go_wp2
  all_goals go_ret
  all_goals exact ⟨ret_int (by simp [View.chk, View.ok]; omega), (Below.refl _ _).alloc (Nat.le_refl _) _⟩
set_option maxHeartbeats 1000000 in
theorem refIn_any (n lo hi : Int) (w : World) : Calls Tryz.prog 40 #[.int .i64 n, .int .i64 lo, .int .i64 hi] w fun e w' => (∃ b, e = .returned (.bool b) ∧ b = inR n lo hi) ∧ w = w' := by
  by_cases h1 : lo ≤ n
  · by_cases h2 : n ≤ hi
    · go_enter Tryz.func40, Tryz.ntmps40
      go_wp2_with fail
      go_ret
      first | exact ⟨⟨_, rfl, by simp [inR, h1, h2]⟩, rfl⟩ | exact ⟨by simp [inR]; omega, rfl⟩ | exact ⟨by simp [inR, h1, h2], rfl⟩
    · go_enter Tryz.func40, Tryz.ntmps40
      go_wp2_with fail
      go_ret
      first | exact ⟨⟨_, rfl, by simp [inR, h1, h2]⟩, rfl⟩ | exact ⟨by simp [inR]; omega, rfl⟩ | exact ⟨by simp [inR, h1, h2], rfl⟩
  · go_enter Tryz.func40, Tryz.ntmps40
    go_wp2_with fail
    go_ret
    first | exact ⟨⟨_, rfl, by simp [inR, h1]⟩, rfl⟩ | exact ⟨by simp [inR]; omega, rfl⟩ | exact ⟨by simp [inR, h1], rfl⟩
end Go.Proofs.YtaicecnfodhlcaaGreat
/- The document's right. -/
set_option linter.unusedVariables false
set_option linter.unusedSimpArgs false
namespace Go.Proofs.YtaicecnfodhlcaaGreat
open Go.RowKit Go.Deep

theorem rchk0 {v : View} (h : v.ok = true) : v.chk = 0 := by unfold View.chk; rw [h]; rfl
theorem rchk1 {v : View} (h : v.ok = false) : v.chk = 23 := by unfold View.chk; rw [h]; rfl
set_option maxRecDepth 100000 in
set_option maxHeartbeats 8000000 in
theorem refRight_any (c : Cfg) (a : Option Addr) (cap : Nat) (w : World) (hs : Sl 3 viewL w a c.vs) (hl : c.vs.length ≤ 9223372036854775807) :
    Calls Tryz.prog 10 #[cfgV c a cap] w fun e w' => e = .returned (.bool c.right) ∧ Below w.heap.size w w' := by
  have hb0 : Below w.heap.size w (w.alloc (cfgO c a cap)) := (Below.refl _ _).alloc (Nat.le_refl _) _
  have hz0 : (w.alloc (cfgO c a cap)).heap.size = w.heap.size + 1 := by simp
  have hf0 : (w.alloc (cfgO c a cap)).heap[w.heap.size]? = some (cfgO c a cap) := blk_at rfl
  obtain ⟨vs, so, op, sh, sl, bx, ad, pi, ch, fr, inn, out⟩ := c
  dsimp only at *
  have Hb0 := Lib.hid hb0
  have Hf0 := Lib.hid hf0
  clear hb0 hf0
  go_enter Tryz.func10, Tryz.ntmps10
  go_wp2_with fail
  generalize hW0 : w.alloc (.cells #[.slice a vs.length cap, .int .i64 so, .int .i64 op, .int .i64 sh, .int .i64 sl, .int .i64 bx, .int .i64 ad, .int .i64 pi, .int .i64 ch, .int .i64 fr, .int .i64 inn, .int .i64 out] 24) = W0 at *
  clear hW0
  refine (refIn_any _ _ _ _).mono ?_
  rintro e w0 ⟨⟨b0, rfl, hb0⟩, rfl⟩
  have H0 := Lib.hid hb0
  clear hb0
  go_wp2_with fail
  go_loopg [3, 4] vs.length (fun g s3 s4 wr => ∃ j : Nat, j + g = vs.length ∧ s4 = .int .i64 j ∧ s3 = .bool (b0 && (vs.take j).all View.ok) ∧ Below W0.heap.size W0 wr)
  case atStart => exact ⟨0, by omega, rfl, by simp, Below.refl _ _⟩
  case round =>
    obtain ⟨j, hj, rfl, rfl, hb⟩ := hrel
    have Hj := Lib.hid hj
    have hzb := hb.size
    have Hb := Lib.hid (Hb0.out.trans (hb.mono (by omega)))
    have Hf := Lib.hid ((hb.block w.heap.size (by omega)).trans Hf0.out)
    have Hbw := Lib.hid hb
    clear hj hb
    have q0 := cell_blk Hf.out 0
    simp at q0
    have hstep : ∀ ok : Bool, (b0 && (vs.take j).all View.ok) = ok → (j < vs.length ∧ ok = true) ∨ (b0 && vs.all View.ok) = ok := by
      intro ok hok
      by_cases h1 : j < vs.length
      · cases ok with
        | true => exact .inl ⟨h1, rfl⟩
        | false =>
          refine .inr ?_
          cases b0 with
          | false => rfl
          | true =>
            have h2 : (vs.take j).all View.ok = false := by simpa using hok
            rw [List.all_eq_false] at h2
            obtain ⟨x, hx, hx2⟩ := h2
            show vs.all View.ok = false
            rw [List.all_eq_false]
            exact ⟨x, List.mem_of_mem_take hx, hx2⟩
      · rw [List.take_of_length_le (by omega)] at hok
        exact .inr hok
    obtain ⟨ok, hok⟩ : ∃ ok, (b0 && (vs.take j).all View.ok) = ok := ⟨_, rfl⟩
    have Hstep := Lib.hid (hstep ok hok)
    have Hok := Lib.hid hok
    rw [hok]
    clear hstep hok
    by_cases hlt : j < vs.length ∧ ok = true
    · obtain ⟨hlt, rfl⟩ := hlt
      obtain ⟨ob, oo, rfl, hob, h0, h1, h2⟩ := hs.at3 hlt rfl
      have d0 := (Hb.out.cell (p := ⟨ob, _, none⟩) hob).trans h0
      have d1 := (Hb.out.cell (p := ⟨ob, _, none⟩) hob).trans h1
      have d2 := (Hb.out.cell (p := ⟨ob, _, none⟩) hob).trans h2
      have hc := fun W => refCheck_any vs[j].size vs[j].slide vs[j].late W
      rw [show View.chk ⟨vs[j].size, vs[j].slide, vs[j].late⟩ = View.chk vs[j] from rfl] at hc
      have hnext : (b0 && (vs.take (j + 1)).all View.ok) = (vs[j].chk == 0) := by
        rw [List.take_succ_eq_append_getElem hlt, List.all_append, ← Bool.and_assoc, Hok.out]
        cases hz : vs[j].ok
        · rw [rchk1 hz]; simp [hz]
        · rw [rchk0 hz]; simp [hz]
      have Hnext := Lib.hid hnext
      clear h0 h1 h2 hnext
      generalize vs[j].chk = ck at *
      generalize vs[j].size = x at *
      generalize vs[j].slide = y at *
      generalize vs[j].late = z at *
      go_wp2_with fail
      refine (hc _).mono ?_
      rintro e w1 ⟨rfl, hb1⟩
      go_wp2_with fail
      go_roundg (gk - 1)
      case measure => have := Hj.out; omega
      case rel => exact ⟨j + 1, by have := Hj.out; omega, by go_num, by rw [Hnext.out], Hbw.out.trans (hb1.mono hzb)⟩
    · have hall : (b0 && vs.all View.ok) = ok := by
        rcases Hstep.out with h1 | h1
        · exact absurd h1 hlt
        · exact h1
      have Hall := Lib.hid hall
      have Hlt := Lib.hid hlt

      have q1 := cell_blk Hf.out 1
      have q2 := cell_blk Hf.out 2
      have q3 := cell_blk Hf.out 3
      have q4 := cell_blk Hf.out 4
      have q5 := cell_blk Hf.out 5
      have q6 := cell_blk Hf.out 6
      have q7 := cell_blk Hf.out 7
      have q8 := cell_blk Hf.out 8
      have q9 := cell_blk Hf.out 9
      have q10 := cell_blk Hf.out 10
      have q11 := cell_blk Hf.out 11
      simp at q1 q2 q3 q4 q5 q6 q7 q8 q9 q10 q11
      clear hall hlt Hok Hstep
      have hlt2 : ok = true → ¬ (j : Int) < (vs.length : Int) := fun h1 h2 => Hlt.out ⟨by omega, h1⟩
      cases ok
      · by_cases hj2 : (j : Int) < (vs.length : Int)
        all_goals (
          clear hlt2
          go_wp2_with fail
          go_ret
          refine ⟨ret_bool ?_, Hb.out⟩
          unfold Cfg.right Cfg.nums
          have h1 := Hall.out
          rw [H0.out] at h1
          cases hv : vs.all View.ok
          · rfl
          · rw [hv, Bool.and_true] at h1
            rw [h1]
            simp)
      · have hj3 := hlt2 rfl
        clear hlt2
        go_wp2_with fail
        refine (refIn_any _ _ _ _).mono ?_
        rintro e w1 ⟨⟨b1, rfl, hb1⟩, rfl⟩
        have H1 := Lib.hid hb1
        clear hb1
        cases b1
        · skip
          go_wp2_with fail
          go_ret
          refine ⟨ret_bool ?_, Hb.out⟩
          unfold Cfg.right Cfg.nums
          have h1 := Hall.out
          rw [Bool.and_eq_true, H0.out] at h1
          rw [h1.1, h1.2, ← H1.out]
          simp
        · skip
          go_wp2_with fail
          refine (refIn_any _ _ _ _).mono ?_
          rintro e w2 ⟨⟨b2, rfl, hb2⟩, rfl⟩
          have H2 := Lib.hid hb2
          clear hb2
          cases b2
          · skip
            go_wp2_with fail
            go_ret
            refine ⟨ret_bool ?_, Hb.out⟩
            unfold Cfg.right Cfg.nums
            have h1 := Hall.out
            rw [Bool.and_eq_true, H0.out] at h1
            rw [h1.1, h1.2, ← H1.out, ← H2.out]
            simp
          · skip
            go_wp2_with fail
            refine (refIn_any _ _ _ _).mono ?_
            rintro e w3 ⟨⟨b3, rfl, hb3⟩, rfl⟩
            have H3 := Lib.hid hb3
            clear hb3
            cases b3
            · skip
              go_wp2_with fail
              go_ret
              refine ⟨ret_bool ?_, Hb.out⟩
              unfold Cfg.right Cfg.nums
              have h1 := Hall.out
              rw [Bool.and_eq_true, H0.out] at h1
              rw [h1.1, h1.2, ← H1.out, ← H2.out, ← H3.out]
              simp
            · skip
              go_wp2_with fail
              refine (refIn_any _ _ _ _).mono ?_
              rintro e w4 ⟨⟨b4, rfl, hb4⟩, rfl⟩
              have H4 := Lib.hid hb4
              clear hb4
              cases b4
              · skip
                go_wp2_with fail
                go_ret
                refine ⟨ret_bool ?_, Hb.out⟩
                unfold Cfg.right Cfg.nums
                have h1 := Hall.out
                rw [Bool.and_eq_true, H0.out] at h1
                rw [h1.1, h1.2, ← H1.out, ← H2.out, ← H3.out, ← H4.out]
                simp
              · skip
                go_wp2_with fail
                refine (refIn_any _ _ _ _).mono ?_
                rintro e w5 ⟨⟨b5, rfl, hb5⟩, rfl⟩
                have H5 := Lib.hid hb5
                clear hb5
                cases b5
                · skip
                  go_wp2_with fail
                  go_ret
                  refine ⟨ret_bool ?_, Hb.out⟩
                  unfold Cfg.right Cfg.nums
                  have h1 := Hall.out
                  rw [Bool.and_eq_true, H0.out] at h1
                  rw [h1.1, h1.2, ← H1.out, ← H2.out, ← H3.out, ← H4.out, ← H5.out]
                  simp
                · skip
                  go_wp2_with fail
                  refine (refIn_any _ _ _ _).mono ?_
                  rintro e w6 ⟨⟨b6, rfl, hb6⟩, rfl⟩
                  have H6 := Lib.hid hb6
                  clear hb6
                  cases b6
                  · skip
                    go_wp2_with fail
                    go_ret
                    refine ⟨ret_bool ?_, Hb.out⟩
                    unfold Cfg.right Cfg.nums
                    have h1 := Hall.out
                    rw [Bool.and_eq_true, H0.out] at h1
                    rw [h1.1, h1.2, ← H1.out, ← H2.out, ← H3.out, ← H4.out, ← H5.out, ← H6.out]
                    simp
                  · skip
                    go_wp2_with fail
                    refine (refIn_any _ _ _ _).mono ?_
                    rintro e w7 ⟨⟨b7, rfl, hb7⟩, rfl⟩
                    have H7 := Lib.hid hb7
                    clear hb7
                    cases b7
                    · skip
                      go_wp2_with fail
                      go_ret
                      refine ⟨ret_bool ?_, Hb.out⟩
                      unfold Cfg.right Cfg.nums
                      have h1 := Hall.out
                      rw [Bool.and_eq_true, H0.out] at h1
                      rw [h1.1, h1.2, ← H1.out, ← H2.out, ← H3.out, ← H4.out, ← H5.out, ← H6.out, ← H7.out]
                      simp
                    · skip
                      go_wp2_with fail
                      refine (refIn_any _ _ _ _).mono ?_
                      rintro e w8 ⟨⟨b8, rfl, hb8⟩, rfl⟩
                      have H8 := Lib.hid hb8
                      clear hb8
                      cases b8
                      · skip
                        go_wp2_with fail
                        go_ret
                        refine ⟨ret_bool ?_, Hb.out⟩
                        unfold Cfg.right Cfg.nums
                        have h1 := Hall.out
                        rw [Bool.and_eq_true, H0.out] at h1
                        rw [h1.1, h1.2, ← H1.out, ← H2.out, ← H3.out, ← H4.out, ← H5.out, ← H6.out, ← H7.out, ← H8.out]
                        simp
                      · skip
                        go_wp2_with fail
                        refine (refIn_any _ _ _ _).mono ?_
                        rintro e w9 ⟨⟨b9, rfl, hb9⟩, rfl⟩
                        have H9 := Lib.hid hb9
                        clear hb9
                        cases b9
                        · skip
                          go_wp2_with fail
                          go_ret
                          refine ⟨ret_bool ?_, Hb.out⟩
                          unfold Cfg.right Cfg.nums
                          have h1 := Hall.out
                          rw [Bool.and_eq_true, H0.out] at h1
                          rw [h1.1, h1.2, ← H1.out, ← H2.out, ← H3.out, ← H4.out, ← H5.out, ← H6.out, ← H7.out, ← H8.out, ← H9.out]
                          simp
                        · skip
                          go_wp2_with fail
                          refine (refIn_any _ _ _ _).mono ?_
                          rintro e w10 ⟨⟨b10, rfl, hb10⟩, rfl⟩
                          have H10 := Lib.hid hb10
                          clear hb10
                          cases b10
                          · skip
                            go_wp2_with fail
                            go_ret
                            refine ⟨ret_bool ?_, Hb.out⟩
                            unfold Cfg.right Cfg.nums
                            have h1 := Hall.out
                            rw [Bool.and_eq_true, H0.out] at h1
                            rw [h1.1, h1.2, ← H1.out, ← H2.out, ← H3.out, ← H4.out, ← H5.out, ← H6.out, ← H7.out, ← H8.out, ← H9.out, ← H10.out]
                            simp
                          · skip
                            go_wp2_with fail
                            refine (refIn_any _ _ _ _).mono ?_
                            rintro e w11 ⟨⟨b11, rfl, hb11⟩, rfl⟩
                            have H11 := Lib.hid hb11
                            clear hb11
                            cases b11
                            · skip
                              go_wp2_with fail
                              go_ret
                              refine ⟨ret_bool ?_, Hb.out⟩
                              unfold Cfg.right Cfg.nums
                              have h1 := Hall.out
                              rw [Bool.and_eq_true, H0.out] at h1
                              rw [h1.1, h1.2, ← H1.out, ← H2.out, ← H3.out, ← H4.out, ← H5.out, ← H6.out, ← H7.out, ← H8.out, ← H9.out, ← H10.out, ← H11.out]
                              simp
                            · skip
                              go_wp2_with fail
                              go_ret
                              refine ⟨ret_bool ?_, Hb.out⟩
                              unfold Cfg.right Cfg.nums
                              have h1 := Hall.out
                              rw [Bool.and_eq_true, H0.out] at h1
                              rw [h1.1, h1.2, ← H1.out, ← H2.out, ← H3.out, ← H4.out, ← H5.out, ← H6.out, ← H7.out, ← H8.out, ← H9.out, ← H10.out, ← H11.out]
                              simp
end Go.Proofs.YtaicecnfodhlcaaGreat
/- The law's small helpers. -/
set_option linter.unusedVariables false
set_option linter.unusedSimpArgs false
namespace Go.Proofs.YtaicecnfodhlcaaGreat
open Go.RowKit

/-- A number from 0 to n - 1. -/
def wi (a n : Int) : Int := if a.tmod n < 0 then a.tmod n + n else a.tmod n
theorem wi_bounds (a n : Int) (hn : 1 ≤ n) : 0 ≤ wi a n ∧ wi a n < n := by
  have h1 : a.tmod n < n := Int.tmod_lt_of_pos a (by omega)
  have h2 : -n < a.tmod n := by
    have := Int.lt_tmod_of_pos a (b := n) (by omega)
    omega
  unfold wi
  split <;> omega
set_option maxHeartbeats 1000000 in
theorem within_any (a n : Int) (w : World) (hn : 1 ≤ n) (hn2 : n ≤ 100000) :
    Calls Tryz.prog 17 #[.int .i64 a, .int .i64 n] w fun e w' => e = .returned (.int .i64 (wi a n)) ∧ w = w' := by
  have h1 : a.tmod n < n := Int.tmod_lt_of_pos a (by omega)
  have h2 : -n < a.tmod n := by
    have := Int.lt_tmod_of_pos a (b := n) (by omega)
    omega
  have hne : ¬ n = 0 := by omega
  have hne2 : (n == 0) = false := by simpa using hne
  have hm1 : ¬ n = -1 := by omega
  unfold wi
  generalize hr : a.tmod n = r at *
  by_cases h3 : r < 0
  · rw [if_pos h3]
    go_enter Tryz.func17, Tryz.ntmps17
    go_wp2_with fail
    go_ret
    exact ⟨ret_int (by first | rfl | omega), rfl⟩
  · rw [if_neg h3]
    go_enter Tryz.func17, Tryz.ntmps17
    go_wp2_with fail
    go_ret
    exact ⟨ret_int (by first | rfl | omega), rfl⟩
end Go.Proofs.YtaicecnfodhlcaaGreat
