/- The walk of the law OperOrders. -/
import Derived.Test.YtheimbhnckaonaaOrdP
set_option linter.unusedVariables false
set_option linter.unusedSimpArgs false
namespace Go.Proofs.Ytheimbhnckaonaa
open Go.RowKit

set_option maxRecDepth 100000 in
set_option maxHeartbeats 4000000 in
theorem orders_bad (A : Option Addr) (cap : Nat) (vs : List View) (n : Int) (s1 s2 s3 : Value) (w : World) (hs : Sl 3 viewL w A vs) (he : newE vs n ≠ 0) :
    Calls Try.prog 9 #[.slice A vs.length cap, .int .i64 n, s1, s2, s3] w fun e w' => e = .returned (.bool true) ∧ Below w.heap.size w w' := by
  have hk := fun W => known_any W
  have hn1 := fun a c W hs => new_bad a c vs n W hs he
  have her : (newE vs n != newE vs n) = false := by simp
  generalize newE vs n = er at *
  go_enter Try.func9, Try.ntmps9
  go_wp2_with fail
  refine (hk _).mono ?_
  rintro e w0 ⟨rfl, hb0⟩
  have hs0 := hs.below hb0
  go_wp2_with fail
  refine (hn1 _ _ _ hs0).mono ?_
  rintro e w1 ⟨rfl, hb1⟩
  have hs1 := hs0.below hb1
  go_wp2_with fail
  refine (hn1 _ _ _ hs1).mono ?_
  rintro e w2 ⟨rfl, hb2⟩
  have hz0 := hb0.size
  have hz1 := hb1.size
  go_wp2_with fail
  go_ret
  exact ⟨rfl, (hb0.trans (hb1.mono (by omega))).trans (hb2.mono (by omega))⟩

set_option maxRecDepth 100000 in
set_option maxHeartbeats 8000000 in
theorem orders_ok (A : Option Addr) (cap : Nat) (vs : List View) (k : Nat) (S : Option Addr) (scap : Nat) (sts : List St) (key : ByteArray) (tm : Int) (w : World) (hs : Sl 3 viewL w A vs) (he : newE vs k = 0) (hS : Sl 6 stL w S sts) :
    Calls Try.prog 9 #[.slice A vs.length cap, .int .i64 (k : Int), .slice S sts.length scap, .string key, .int .i64 tm] w fun e w' => e = .returned (.bool true) ∧ Below w.heap.size w w' := by
  have hk := fun W => known_any W
  obtain ⟨q1, q2, q3, q4, q5⟩ := newE_ok he
  have hn1 := fun a c W hs => new_ok a c vs k W hs q1 q2 q3 q4 q5
  have hk8 : k ≤ 8 := by omega
  have hk1 : 1 ≤ k := by omega
  clear q1 q2 q3 q4 q5 he
  go_enter Try.func9, Try.ntmps9
  go_wp2_with fail
  refine (hk _).mono ?_
  rintro e w0 ⟨rfl, hb0⟩
  have hz0 := hb0.size
  have hs0 := hs.below hb0
  go_wp2_with fail
  refine (hn1 _ _ _ hs0).mono ?_
  rintro e w1 ⟨a, rfl, hop1, hb1, a1, a2, a3, a4⟩
  have hz1 := hb1.size
  have hs1 := hs0.below hb1
  go_wp2_with fail
  refine (hn1 _ _ _ hs1).mono ?_
  rintro e w2 ⟨b, rfl, hop2, hb2, b1, b2, b3, b4⟩
  have hz2 := hb2.size
  have hb02 : Below w.heap.size w w2 := (hb0.trans (hb1.mono (by omega))).trans (hb2.mono (by omega))
  obtain ⟨hab, hba⟩ := apt_both (hop1.below hb2) hop2 hop1.lt hop1.under b1 b2 b3 b4
  have HA := Lib.hid (hop1.below hb2)
  have HB := Lib.hid hop2
  have na : w.heap.size ≤ a.bl ∧ w.heap.size ≤ a.br := ⟨by omega, by omega⟩
  have nb : w.heap.size ≤ b.bl ∧ w.heap.size ≤ b.br := ⟨by omega, by omega⟩
  clear hk hn1 hop1 hop2 hb0 hb1 hb2 hs0 hs1 a1 a2 a3 a4 b1 b2 b3 b4
  simp only [Int.toNat_natCast] at HA HB
  have hgo : ∃ N, N ≤ sts.length ∧ N ≤ 200 ∧ (N = 200 ∨ N = sts.length) ∧ N = min sts.length 200 := ⟨min sts.length 200, by omega, by omega, by omega, rfl⟩
  obtain ⟨N, hN1, hN2, hN3, hNe⟩ := hgo
  have HN3 := Lib.hid hN3
  have HNe := Lib.hid hNe
  clear hN3 hNe
  have hm1 : ∀ (x : OpB) (ms : List Int) (s t : Int) W, IsOper W x ⟨vs, ms, []⟩ → Calls Try.prog 30 #[.pointer (some ⟨x.bp, 0, none⟩), .int .i64 s, .int .i64 t] W fun e w' => ∃ v, e = .returned v ∧ IsOper w' x ⟨vs, mk1 ms s t, []⟩ ∧ Chg [x.bl, x.br] W w' := by
    intro x ms s t W hW
    refine (mark_all x ⟨vs, ms, []⟩ s t W hW (by simp)).mono ?_
    rintro e w' ⟨v, rfl, _, ho, hc⟩
    rw [markO_nil] at ho
    exact ⟨_, rfl, ho, hc⟩
  have Hm1 := Lib.hid hm1
  clear hm1
  generalize hms0 : List.replicate k noMark = ms0 at *
  by_cases h200 : (200 : Int) < (sts.length : Int)
  all_goals (
    go_wp2_with fail
    go_loopg [16] N (fun q i wr => ∃ j : Nat, j + q = N ∧ i = .int .i64 j ∧ IsOper wr a ⟨vs, runMs ms0 (sts.take j), []⟩ ∧ IsOper wr b ⟨vs, ms0, []⟩ ∧ Below w.heap.size w wr)
    case atStart => exact ⟨0, by omega, rfl, HA.out, HB.out, hb02⟩
    case round =>
      obtain ⟨j, hj, rfl, ha, hbb, hb⟩ := hrel
      have Hj := Lib.hid hj
      have Ha := Lib.hid ha
      have Hb := Lib.hid hbb
      have hzr := hb.size
      clear hj ha hbb
      by_cases hlt : j < N
      · have h7 : j < sts.length := by omega
        have hA2 : (j : Int) < 200 := by omega
        have hB2 : (j : Int) < (sts.length : Int) := by omega
        obtain ⟨sb, so, rfl, hsb, s6⟩ := hS.six h7
        have hsn := runMs_snoc ms0 sts h7
        have HSN := Lib.hid hsn
        have hbD : Below w.heap.size w wr.drew := hb.drew
        have hmk := Hm1.out a _ sts[j].source sts[j].t wr.drew (Ha.out.below (Below.refl wr.heap.size wr).drew)
        have kp : ∀ W, Below w.heap.size w W → (Below w.heap.size w W ∧ W.cell? ⟨sb, so + j * 6 + 1, none⟩ = some (.int .i64 sts[j].source) ∧ W.cell? ⟨sb, so + j * 6 + 3, none⟩ = some (.int .i64 sts[j].t)) := by
          intro W hW
          obtain ⟨_, e1, _, e3, _, _⟩ := s6 W hW
          exact ⟨hW, e1, e3⟩
        have kD := kp _ hbD
        generalize sts[j].source = x2 at *
        generalize sts[j].t = x4 at *
        clear hsn
        go_wp2_with fail
        go_region_held3 (fun W => Below w.heap.size w W ∧ W.cell? ⟨sb, so + j * 6 + 1, none⟩ = some (.int .i64 x2) ∧ W.cell? ⟨sb, so + j * 6 + 3, none⟩ = some (.int .i64 x4)) (first | exact kD | assumption)
          (first | (go_at_call 30; refine hmk.mono ?_; rintro e w4 ⟨v4, rfl, ho4, hc4⟩; have hb4 := Below.op hbD hc4 (Nat.le_refl _) (by simp; omega); have hk4 := kp _ hb4))
        have Ho4 := Lib.hid ho4
        have Hb4 := Lib.hid (((Hb.out.below (Below.refl wr.heap.size wr).drew)).apt hab hc4)
        clear ho4 hmk kp kD hc4
        go_wp2_with fail
        go_roundg (N - (j + 1))
        case measure => have := Hj.out; omega
        case rel => exact ⟨j + 1, by have := Hj.out; omega, by go_num, by rw [HSN.out]; exact Ho4.out, Hb4.out, hb4⟩
      · have hjN : j = N := by have := Hj.out; omega
        have HA3 := Lib.hid (show IsOper wr a ⟨vs, runMs ms0 (sts.take N), []⟩ from hjN ▸ Ha.out)
        have hNe := HNe.out
        first
          | have hng : ¬ (j : Int) < 200 := by omega
          | have hng : ¬ (j : Int) < (sts.length : Int) := by omega
        have HBS := Lib.hid (show BS k (sts.take N) k ms0 from hms0 ▸ BS.start k _)
        clear hNe hjN
        go_wp2_with fail
        go_loopg [17] k (fun q i wr => ∃ Q : Nat, Q = q ∧ Q ≤ k ∧ i = .int .i64 ((Q : Int) - 1) ∧ ∃ ms, BS k (sts.take N) Q ms ∧ IsOper wr b ⟨vs, ms, []⟩ ∧ IsOper wr a ⟨vs, runMs ms0 (sts.take N), []⟩ ∧ Below w.heap.size w wr)
        case atStart => exact ⟨k, rfl, Nat.le_refl _, by first | rfl | go_num, ms0, HBS.out, Hb.out, HA3.out, hb⟩
        case round =>
          clear hb Ha Hb HA3 HBS hng hzr hlt Hj
          obtain ⟨Q, hQ, hQk, rfl, ms, hBS, hbo, hao, hb⟩ := hrel
          have HQ := Lib.hid hQ
          have HBS := Lib.hid hBS
          have Hbo := Lib.hid hbo
          have Hao := Lib.hid hao
          clear hQ hBS hbo hao
          by_cases hq0 : Q = 0
          · subst hq0
            have hms := HBS.out.fin
            rw [hms0] at hms
            subst hms
            have ht1 := take_all a ⟨vs, runMs ms0 (sts.take N), []⟩ key tm _ Hao.out
            have hX : (takeX ⟨vs, runMs ms0 (sts.take N), []⟩ key tm).length ≤ 256 := takeX_len Hao.out.vhi Hao.out.vok key tm
            have ht2 := fun W hW => take_all b ⟨vs, runMs ms0 (sts.take N), []⟩ key tm W hW
            have hl1 := fun W hW => operLeast_any a ⟨vs, runMs ms0 (sts.take N), []⟩ W hW
            have hl2 := fun W hW => operLeast_any b ⟨vs, runMs ms0 (sts.take N), []⟩ W hW
            simp only at hl1 hl2
            clear HBS
            generalize runMs ms0 (sts.take N) = RM at *
            generalize takeX ⟨vs, RM, []⟩ key tm = X at *
            generalize takeL ⟨vs, RM, []⟩ key tm = lt at *
            generalize takeE ⟨vs, RM, []⟩ key tm = er at *
            generalize leastOf RM = lm at *
            go_wp2_with fail
            refine ht1.mono ?_
            rintro e w4 ⟨v4, rfl, hx4, hb4⟩
            have hz4 := hb4.size
            have Hao4 := Lib.hid (Hao.out.below hb4)
            have Hbo4 := Lib.hid (Hbo.out.below hb4)
            obtain ⟨ox, capx, rfl, _, hsx, _, _⟩ := hx4.sl (fun _ => rfl)
            clear ht1 hx4
            go_wp2_with fail
            refine (ht2 _ Hbo4.out).mono ?_
            rintro e w5 ⟨v5, rfl, hx5, hb5⟩
            have hz5 := hb5.size
            have Hao5 := Lib.hid (Hao4.out.below hb5)
            have Hbo5 := Lib.hid (Hbo4.out.below hb5)
            obtain ⟨oy, capy, rfl, _, hsy, _, _⟩ := hx5.sl (fun _ => rfl)
            have hsame := same_any ox capx X oy capy X w5 (hsx.below hb5) hsy (by omega)
            rw [decide_eq_true rfl] at hsame
            have e1 : (lm == lm) = true := by simp
            have e2 : (lt == lt) = true := by simp
            have e3 : (er == er) = true := by simp
            clear ht2 hx5 hsx hsy
            go_wp2_with fail
            refine (hl1 _ Hao5.out).mono ?_
            rintro e w' ⟨rfl, rfl⟩
            go_wp2_with fail
            refine (hl2 _ Hbo5.out).mono ?_
            rintro e w' ⟨rfl, rfl⟩
            go_wp2_with fail
            refine hsame.mono ?_
            rintro e w6 ⟨rfl, hb6⟩
            go_wp2_with fail
            go_ret
            exact ⟨rfl, hb.trans ((hb4.trans ((hb5.mono hz4).trans (hb6.mono (by omega)))).mono hb.size)⟩
          · obtain ⟨q, rfl⟩ : ∃ q, Q = q + 1 := ⟨Q - 1, by omega⟩
            have eq1 : ((q + 1 : Nat) : Int) - 1 = (q : Int) := by omega
            rw [eq1]
            have hge : (0 : Int) ≤ (q : Int) := by omega
            have HBI := Lib.hid HBS.out.into
            go_wp2_with fail
            go_loopg [18] N (fun r i wr => ∃ j : Nat, j + r = N ∧ i = .int .i64 j ∧ ∃ ms, BI k (sts.take N) (sts.take j) q ms ∧ IsOper wr b ⟨vs, ms, []⟩ ∧ IsOper wr a ⟨vs, runMs ms0 (sts.take N), []⟩ ∧ Below w.heap.size w wr)
            case atStart => exact ⟨0, by omega, rfl, ms, HBI.out, Hbo.out, Hao.out, hb⟩
            case round =>
              clear hb HBS Hbo Hao HBI
              obtain ⟨j, hj, rfl, ms, hBI, hbo, hao, hb⟩ := hrel
              have Hj := Lib.hid hj
              have HBI := Lib.hid hBI
              have Hbo := Lib.hid hbo
              have Hao := Lib.hid hao
              clear hj hBI hbo hao
              by_cases hlt : j < N
              · have h7 : j < sts.length := by omega
                have hA2 : (j : Int) < 200 := by omega
                have hB2 : (j : Int) < (sts.length : Int) := by omega
                obtain ⟨sb, so, rfl, hsb, s6⟩ := hS.six h7
                obtain ⟨_, e1, _, e3, _, _⟩ := s6 _ hb
                by_cases hsrc : sts[j].source = (q : Int)
                · have HH := Lib.hid (HBI.out.hit h7 hsrc)
                  rw [hsrc] at e1
                  have hmk := Hm1.out b ms q sts[j].t wr Hbo.out
                  generalize sts[j].t = x4 at *
                  clear hsrc
                  go_wp2_with fail
                  refine hmk.mono ?_
                  rintro e w4 ⟨v4, rfl, ho4, hc4⟩
                  have hb4 := Below.op hb hc4 (Nat.le_refl _) (by simp; omega)
                  have Ho4 := Lib.hid ho4
                  have Hao4 := Lib.hid (Hao.out.apt hba hc4)
                  clear ho4 hmk hc4 e1 e3
                  go_wp2_with fail
                  go_roundg (N - (j + 1))
                  case measure => have := Hj.out; omega
                  case rel => exact ⟨j + 1, by have := Hj.out; omega, by go_num, _, HH.out, Ho4.out, Hao4.out, hb4⟩
                · have HH := Lib.hid (HBI.out.miss h7 hsrc)
                  have hne : (sts[j].source == (q : Int)) = false := by simpa using hsrc
                  generalize sts[j].source = x2 at *
                  clear hsrc e3
                  go_wp2_with fail
                  go_roundg (N - (j + 1))
                  case measure => have := Hj.out; omega
                  case rel => exact ⟨j + 1, by have := Hj.out; omega, by go_num, _, HH.out, Hbo.out, Hao.out, hb⟩
              · have hjN : j = N := by have := Hj.out; omega
                have HBS := Lib.hid (show BS k (sts.take N) q ms from (hjN ▸ HBI.out).out)
                have hNe := HNe.out
                first
                  | have hng : ¬ (j : Int) < 200 := by omega
                  | have hng : ¬ (j : Int) < (sts.length : Int) := by omega
                clear hNe hjN
                go_wp2_with fail
                go_loopg [19] N (fun r i wr => ∃ j : Nat, j + r = N ∧ i = .int .i64 j ∧ IsOper wr b ⟨vs, ms, []⟩ ∧ IsOper wr a ⟨vs, runMs ms0 (sts.take N), []⟩ ∧ Below w.heap.size w wr)
                case atStart => exact ⟨0, by omega, rfl, Hbo.out, Hao.out, hb⟩
                case round =>
                  clear hb Hbo Hao HBI hng Hj hlt
                  obtain ⟨j, hj, rfl, hbo, hao, hb⟩ := hrel
                  have Hj := Lib.hid hj
                  have Hbo := Lib.hid hbo
                  have Hao := Lib.hid hao
                  clear hj hbo hao
                  by_cases hlt : j < N
                  · have h7 : j < sts.length := by omega
                    have hA2 : (j : Int) < 200 := by omega
                    have hB2 : (j : Int) < (sts.length : Int) := by omega
                    obtain ⟨sb, so, rfl, hsb, s6⟩ := hS.six h7
                    obtain ⟨_, e1, _, e3, _, _⟩ := s6 _ hb
                    by_cases hsrc : sts[j].source = (q : Int)
                    · by_cases c2 : -1152921504606846976 < sts[j].t
                      · by_cases c3 : sts[j].t ≤ 1152921504606846976
                        · have hto : timeOk sts[j].t = true := by simp [timeOk]; omega
                          have hlow := HBS.out.low (by omega) hlt hN1 h7 hsrc hto
                          have hml := HBS.out.len
                          have hm1 := Hm1.out b ms q (-1152921504606846976) wr Hbo.out
                          rw [mk1_same (by omega) (by omega)] at hm1
                          have hm2 := fun W hW => Hm1.out b ms q sts[j].t W hW
                          rw [mk1_same (by omega) hlow] at hm2
                          rw [hsrc] at e1
                          clear hto hlow hsrc
                          generalize sts[j].t = x4 at *
                          go_wp2_with fail
                          refine hm1.mono ?_
                          rintro e w4 ⟨v4, rfl, ho4, hc4⟩
                          have hb4 := Below.op hb hc4 (Nat.le_refl _) (by simp; omega)
                          have Hao4 := Lib.hid (Hao.out.apt hba hc4)
                          have hm3 := hm2 w4 ho4
                          obtain ⟨_, g1, _, g3, _, _⟩ := s6 _ hb4
                          clear ho4 hm1 hm2 hc4 e1 e3
                          go_wp2_with fail
                          refine hm3.mono ?_
                          rintro e w5 ⟨v5, rfl, ho5, hc5⟩
                          have hb5 := Below.op hb4 hc5 (Nat.le_refl _) (by simp; omega)
                          have Hao5 := Lib.hid (Hao4.out.apt hba hc5)
                          have Ho5 := Lib.hid ho5
                          clear ho5 hm3 hc5 g1 g3
                          go_wp2_with fail
                          go_roundg q
                          case measure => have := HQ.out; omega
                          case rel => exact ⟨q, rfl, by omega, by first | rfl | go_num, ms, HBS.out, Ho5.out, Hao5.out, hb5⟩
                        · rw [hsrc] at e1
                          clear hsrc
                          generalize sts[j].t = x4 at *
                          go_wp2_with fail
                          go_roundg (N - (j + 1))
                          case measure => have := Hj.out; omega
                          case rel => exact ⟨j + 1, by have := Hj.out; omega, by go_num, Hbo.out, Hao.out, hb⟩
                      · rw [hsrc] at e1
                        clear hsrc
                        generalize sts[j].t = x4 at *
                        go_wp2_with fail
                        go_roundg (N - (j + 1))
                        case measure => have := Hj.out; omega
                        case rel => exact ⟨j + 1, by have := Hj.out; omega, by go_num, Hbo.out, Hao.out, hb⟩
                    · have hne : (sts[j].source == (q : Int)) = false := by simpa using hsrc
                      generalize sts[j].source = x2 at *
                      clear hsrc
                      go_wp2_with fail
                      go_roundg (N - (j + 1))
                      case measure => have := Hj.out; omega
                      case rel => exact ⟨j + 1, by have := Hj.out; omega, by go_num, Hbo.out, Hao.out, hb⟩
                  · have hjN : j = N := by have := Hj.out; omega
                    have hNe := HNe.out
                    first
                      | have hng : ¬ (j : Int) < 200 := by omega
                      | have hng : ¬ (j : Int) < (sts.length : Int) := by omega
                    clear hNe hjN
                    go_wp2_with fail
                    go_roundg q
                    case measure => have := HQ.out; omega
                    case rel => exact ⟨q, rfl, by omega, by first | rfl | go_num, ms, HBS.out, Hbo.out, Hao.out, hb⟩)

/-- THE LAW OperOrders, whatever its arguments. -/
theorem orders_any (A : Option Addr) (cap : Nat) (vs : List View) (n : Int) (S : Option Addr) (scap : Nat) (sts : List St) (key : ByteArray) (tm : Int) (w : World) (hs : Sl 3 viewL w A vs) (hu : Under w.heap.size A) (hn : (Lit.int .i64 n).wf = true) (hS : Sl 6 stL w S sts) (hok : ∀ s ∈ sts, StOk w s) (hkey : key.size ≤ maxLen) (htm : (Lit.int .i64 tm).wf = true) :
    Calls Try.prog 9 #[.slice A vs.length cap, .int .i64 n, .slice S sts.length scap, .string key, .int .i64 tm] w fun e w' => e = .returned (.bool true) ∧ Below w.heap.size w w' := by
  by_cases he : newE vs n = 0
  · obtain ⟨_, _, _, h1, _⟩ := newE_ok he
    obtain ⟨k, rfl⟩ : ∃ k : Nat, n = (k : Int) := ⟨n.toNat, by omega⟩
    exact orders_ok A cap vs k S scap sts key tm w hs he hS
  · exact orders_bad A cap vs n _ _ _ w hs he
end Go.Proofs.Ytheimbhnckaonaa
