/- ModelRefused: the plain law. -/
import Derived.Test.YtaicecnfodhlcaaGreatJ22
import Derived.Test.YtaicecnfodhlcaaGreatJ23
import Derived.Deep.CutBlock
import Derived.Deep.DeepCutAuto
import Derived.Test.YtaicecnfodhlcaaGreatJ02
set_option linter.unusedVariables false
set_option linter.unusedSimpArgs false
namespace Go.Proofs.YtaicecnfodhlcaaGreat
open Go.RowKit Go.Deep

theorem Mst.inner_L (S : Mst) (s : Int) (q : Rq) : (S.inner s q).1.L = S.L ∧ (S.inner s q).1.cfg = S.cfg ∧ (S.inner s q).1.ms = S.ms ∧ (S.inner s q).1.cnt = S.cnt := by
  unfold Mst.inner
  split
  · unfold Mst.pin
    split
    · exact ⟨rfl, rfl, rfl, rfl⟩
    · split <;> exact ⟨rfl, rfl, rfl, rfl⟩
  split
  · unfold Mst.join
    split
    · split
      · exact ⟨rfl, rfl, rfl, rfl⟩
      · split <;> exact ⟨rfl, rfl, rfl, rfl⟩
    · exact ⟨rfl, rfl, rfl, rfl⟩
  split
  · unfold Mst.release
    split
    · unfold Mst.drop
      split <;> exact ⟨rfl, rfl, rfl, rfl⟩
    · exact ⟨rfl, rfl, rfl, rfl⟩
  split
  · exact ⟨rfl, rfl, rfl, rfl⟩
  unfold Mst.read
  split
  · exact ⟨rfl, rfl, rfl, rfl⟩
  · split
    · split
      · split <;> exact ⟨rfl, rfl, rfl, rfl⟩
      · exact ⟨rfl, rfl, rfl, rfl⟩
    · exact ⟨rfl, rfl, rfl, rfl⟩
theorem Mst.ask_L (S : Mst) (s : Int) (q : Rq) (r : Int) : (S.ask s q r).1.L = S.L ∧ (S.ask s q r).1.cfg = S.cfg ∧ (S.ask s q r).1.ms = S.ms ∧ (S.ask s q r).1.cnt = S.cnt := by
  unfold Mst.ask
  split; · exact ⟨rfl, rfl, rfl, rfl⟩
  split; · exact ⟨rfl, rfl, rfl, rfl⟩
  split; · exact ⟨rfl, rfl, rfl, rfl⟩
  split; · exact ⟨rfl, rfl, rfl, rfl⟩
  rw [answered_fst]
  exact S.inner_L s q
/-- An error, or a kind of rows and the like; where it is an error the state is as it was. -/
theorem Mst.inner_err (S : Mst) (s : Int) (q : Rq) : ((S.inner s q).2.1 ≠ 0 → (S.inner s q).1 = S) ∧ ((S.inner s q).2.1 = 0 → (S.inner s q).2.2.k ≠ 5) := by
  unfold Mst.inner
  split
  · unfold Mst.pin
    split
    · exact ⟨fun _ => rfl, fun h => by cases h⟩
    · split
      · exact ⟨fun _ => rfl, fun h => by cases h⟩
      · exact ⟨fun h => absurd rfl h, fun _ => by simp⟩
  split
  · unfold Mst.join
    split
    · split
      · exact ⟨fun h => absurd rfl h, fun _ => by simp⟩
      · split
        · exact ⟨fun _ => rfl, fun h => by cases h⟩
        · exact ⟨fun h => absurd rfl h, fun _ => by simp⟩
    · exact ⟨fun _ => rfl, fun h => by cases h⟩
  split
  · unfold Mst.release
    split
    · exact ⟨fun h => absurd rfl h, fun _ => by simp⟩
    · exact ⟨fun _ => rfl, fun h => by cases h⟩
  split
  · exact ⟨fun _ => rfl, fun _ => by simp [Mst.told4]⟩
  unfold Mst.read
  split
  · exact ⟨fun _ => rfl, fun h => by cases h⟩
  · split
    · split
      · split
        · exact ⟨fun _ => rfl, fun h => by cases h⟩
        · exact ⟨fun h => absurd rfl h, fun _ => by simp⟩
      · exact ⟨fun h => absurd rfl h, fun _ => by simp⟩
    · exact ⟨fun h => absurd rfl h, fun _ => by simp⟩
theorem Mst.ask_err (S : Mst) (s : Int) (q : Rq) (r : Int) (h0 : (S.ask s q r).2.1 = 0) (h5 : (S.ask s q r).2.2.k = 5) : (S.ask s q r).1 = S := by
  unfold Mst.ask at *
  split; · rfl
  split; · rfl
  split; · rfl
  split; · rfl
  rename_i h1 h2 h3 h4
  rw [if_neg h1, if_neg h2, if_neg h3, if_neg h4] at h5
  unfold answered at *
  by_cases h6 : (S.inner s q).2.1 = 0
  · rw [if_pos h6] at h5
    exact absurd h5 ((S.inner_err s q).2 h6)
  · rw [if_neg h6]
    exact (S.inner_err s q).1 h6
/-- Refused from outside. -/
theorem Mst.ask_out (S : Mst) (s : Int) (q : Rq) (r : Int) (h1 : 1 ≤ s) (h2 : s ≤ 64) (hr : r = 35 ∨ r = 36) : S.ask s q r = if chkRq q = 0 then (S, 0, Rsp.bad q.i r) else (S, chkRq q, Rsp.no) := by
  unfold Mst.ask
  rw [if_neg (by omega)]
  by_cases hc : chkRq q = 0
  · rw [if_neg (by simp [hc]), if_neg (by omega), if_pos (by omega), if_pos hc]
  · rw [if_pos hc, if_neg hc]
/-- An event for which there is no room. -/
theorem Mst.event_full (S : Mst) (mk : Bool) (k : ByteArray) (t v : Int) : ((S.event mk k t v true).1 = S ∧ (S.event mk k t v true).2.1 = 0 ∧ (S.event mk k t v true).2.2 ≠ 0) ∨ S.event mk k t v true = (S.counts { S.cnt with f := S.cnt.f + 1 }, 4, 0) := by
  unfold Mst.event
  split; · exact .inl ⟨rfl, rfl, by simp⟩
  split; · exact .inl ⟨rfl, rfl, by simp⟩
  split; · exact .inl ⟨rfl, rfl, by simp⟩
  split; · exact .inl ⟨rfl, rfl, by simp⟩
  split; · exact .inl ⟨rfl, rfl, by simp⟩
  rename_i hn
  simp only [Bool.true_and, Bool.not_eq_true, Bool.or_eq_false_iff] at hn
  obtain ⟨⟨h1, h2⟩, h3⟩ := hn
  rw [if_neg (by simp [h1]), if_neg (by simp [h2]), if_pos rfl]
  exact .inr rfl
end Go.Proofs.YtaicecnfodhlcaaGreat
/- The walk of the law ModelRefused (the walk). -/
set_option linter.unusedVariables false
set_option linter.unusedSimpArgs false
namespace Go.Proofs.YtaicecnfodhlcaaGreat
open Go.RowKit Go.Deep

set_option maxRecDepth 100000 in
set_option maxHeartbeats 40000000 in
theorem refused_any (c : Cfg) (A : Option Addr) (cap : Nat) (A1 : Option Addr) (cap1 : Nat) (l : List Opx) (se qk qi qe : Int) (qa : Option Addr) (cells : List Cell) (qc : Nat) (fv : Int) (fk : ByteArray) (fs tv : Int) (tk : ByteArray) (ts lim : Int) (mk : Bool) (k : ByteArray) (t v : Int) (b : Bool) (W : World)
    (hsv : Sl 3 viewL W A c.vs) (hcl : c.vs.length ≤ 9223372036854775807) (hsl : Sl 25 opL W A1 l) (hok : ∀ o ∈ l, OpOk W o) (hll : l.length ≤ 9223372036854775807) (hq : Sl 3 cellL W qa cells) (hqm : cells.length ≤ 9223372036854775807) (hk : k.size ≤ maxLen) (hv : is64 v) :
    Calls Tryz.prog 3 #[cfgV c A cap, .slice A1 l.length cap1, .int .i64 se, .agg #[.int .i64 qk, .int .i64 qi, .int .i64 qe, .slice qa cells.length qc, .int .i64 fv, .string fk, .int .i64 fs, .int .i64 tv, .string tk, .int .i64 ts, .int .i64 lim], .bool b, itemV mk k t v] W fun e W' => e = .returned (.bool true) ∧ Below W.heap.size W W' := by
  go_enter Tryz.func3, Tryz.ntmps3
  go_wp2_with fail
  generalize hW1 : World.alloc (World.alloc (World.alloc W (cfgO c A cap)) (.cells #[.int .i64 qk, .int .i64 qi, .int .i64 qe, .slice qa cells.length qc, .int .i64 fv, .string fk, .int .i64 fs, .int .i64 tv, .string tk, .int .i64 ts, .int .i64 lim] 30)) (.cells #[.bool mk, .string k, .int .i64 t, .int .i64 v] 32) = W1
  have hb1 : Below W.heap.size W W1 := by rw [← hW1]; exact (((Below.refl _ _).alloc (Nat.le_refl _) _).alloc (by simp) _).alloc (by simp; omega) _
  have r0 : W1.heap[W.heap.size]? = some (cfgO c A cap) := by rw [← hW1]; exact (blk_old (by simp; omega)).trans ((blk_old (by simp)).trans (blk_at rfl))
  have r1 : W1.heap[W.heap.size + 1]? = some (.cells #[.int .i64 qk, .int .i64 qi, .int .i64 qe, .slice qa cells.length qc, .int .i64 fv, .string fk, .int .i64 fs, .int .i64 tv, .string tk, .int .i64 ts, .int .i64 lim] 30 (0, 0)) := by rw [← hW1]; exact (blk_old (by simp)).trans (blk_at (by simp))
  have r2 : W1.heap[W.heap.size + 2]? = some (.cells #[.bool mk, .string k, .int .i64 t, .int .i64 v] 32 (0, 0)) := by rw [← hW1]; exact blk_at (by simp)
  have z1 : W1.heap.size = W.heap.size + 3 := by rw [← hW1]; simp
  clear hW1
  have hrr := refRight_any c A cap W1 (hsv.below hb1) hcl
  have hhead := fun W' => head_any W'
  have Hb1 := Lib.hid hb1
  have R0 := Lib.hid r0
  have R1 := Lib.hid r1
  have R2 := Lib.hid r2
  have Z1 := Lib.hid z1
  clear hb1 r0 r1 r2 z1
  cases hR : c.right
  · rw [hR] at hrr
    have HR := Lib.hid hR
    clear hR
    refine hrr.mono ?_
    rintro e w2 ⟨rfl, hb2⟩
    clear hrr
    go_wp2_with fail
    refine (hhead _).mono ?_
    rintro e w3 ⟨rfl, hb3⟩
    go_wp2_with fail
    go_ret
    exact ⟨rfl, Hb1.out.trans ((hb2.trans (hb3.mono hb2.size)).mono Hb1.out.size)⟩
  · rw [hR] at hrr
    have HR := Lib.hid hR
    clear hR
    refine hrr.mono ?_
    rintro e w2 ⟨rfl, hb2⟩
    have r1' := (hb2.block _ (lt_of_block R1.out)).trans R1.out
    have y3 := cell_blk r1' 3
    simp at y3
    clear hrr r1'
    by_cases h100 : cells.length ≤ 100
    rotate_left
    · have hd : decide (100 < (cells.length : Int)) = true := decide_eq_true (by omega)
      have hd2 : (100 : Int) < (cells.length : Int) := by omega
      go_wp2_with fail
      refine (hhead _).mono ?_
      rintro e w3 ⟨rfl, hb3⟩
      go_wp2_with fail
      go_ret
      exact ⟨rfl, Hb1.out.trans ((hb2.trans (hb3.mono hb2.size)).mono Hb1.out.size)⟩
    · have hd2 : ¬ (100 : Int) < (cells.length : Int) := by omega
      have r0' := (hb2.block _ (lt_of_block R0.out)).trans R0.out
      have u0 := cell_blk r0' 0
      have u1 := cell_blk r0' 1
      have u2 := cell_blk r0' 2
      have u3 := cell_blk r0' 3
      have u4 := cell_blk r0' 4
      have u5 := cell_blk r0' 5
      have u6 := cell_blk r0' 6
      have u7 := cell_blk r0' 7
      have u8 := cell_blk r0' 8
      have u9 := cell_blk r0' 9
      have u10 := cell_blk r0' 10
      have u11 := cell_blk r0' 11
      simp at u0 u1 u2 u3 u4 u5 u6 u7 u8 u9 u10 u11
      have hnew := Mine.new (w0 := W1) hb2 (hsv.below (Hb1.out.trans (hb2.mono Hb1.out.size))) HR.out (cap := cap)
      have H100 := Lib.hid h100
      have Hb2 := Lib.hid hb2
      clear r0' h100
      go_wp2_with fail
      refine hnew.mono ?_
      rintro e w3 ⟨B0, rfl, hM3, hb3⟩
      have HM3 := Lib.hid hM3
      generalize B0.mp = mp at *
      clear hnew hM3 hb3 hb2 y3 hd2 u0 u1 u2 u3 u4 u5 u6 u7 u8 u9 u10 u11
      go_upto_block 0 with fail
      go_cut [15] from 44 to 64 (fun sI wx => ∃ (n : Nat) (T : Mst) (B : MB), n ≤ 50 ∧ Mine W1 wx mp B T n)
      case first =>
        go_wp2_with fail
        go_loopg [15] l.length (fun g i wr => ∃ (j : Nat) (T : Mst) (B : MB), j + g = l.length ∧ i = .int .i64 j ∧ j ≤ 50 ∧ Mine W1 wr mp B T j)
        case atStart => exact ⟨0, _, _, by omega, rfl, by omega, HM3.out⟩
        case round =>
          obtain ⟨j, T, B, hj, rfl, hj50, hM⟩ := hrel
          have Hj := Lib.hid hj
          have HM := Lib.hid hM
          have hbw : Below W.heap.size W wr := Hb1.out.trans (hM.below.mono Hb1.out.size)
          by_cases hlt : j < l.length ∧ j < 50
          · as_aux_lemma =>
              obtain ⟨hlt, hl50⟩ := hlt
              obtain ⟨xb, xo, hAe, hxb, hXc⟩ := hsl.at_op hlt
              have hox := hok _ (List.getElem_mem hlt)
              generalize l[j] = x at *
              have hra : ∀ W', Below W.heap.size W W' → ∀ jj v, (opL x)[jj]? = some v → W'.cell? ⟨xb, xo + j * 25 + jj, none⟩ = some v := fun W' hW jj v hv => (hW.cell (p := ⟨xb, xo + j * 25 + jj, none⟩) hxb).trans (hXc jj v hv)
              have hsm := small2_any x wr
              have Hra := Lib.hid hra
              have Hox := Lib.hid hox
              have Hbw := Lib.hid hbw
              have hjl : (j : Int) < (l.length : Int) := by omega
              have hjl50 : (j : Int) < 50 := by omega
              clear hra hox hbw hM hj hXc hxb
              subst hAe
              go_wp2_with (refine wpList_load_mid (ty := 41) rfl _ rfl xb _ rfl (opL x) _ (Hra.out _ Hbw.out) Tryz.underlying41 rfl (by kernel_rfl) ?_)
              refine hsm.mono ?_
              rintro e w5 ⟨rfl, hb5⟩
              have hM5 := HM.out.keep hb5
              have hbw5 := Hbw.out.trans (hb5.mono Hbw.out.size)
              have hox5 := Hox.out.below hbw5
              have Hbw5 := Lib.hid hbw5
              clear hsm
              cases hs : decide (x.q.cells.length ≤ 100)
              · as_aux_lemma =>
                  have HM5 := Lib.hid hM5
                  clear hM5 hox5 hb5 hbw5
                  go_wp2_with fail
                  go_roundg (gk - 1)
                  case measure => have := Hj.out; omega
                  case rel => exact ⟨j + 1, T, B, by have := Hj.out; omega, by go_num, by omega, HM5.out.more⟩
              · as_aux_lemma =>
                  have hact := hM5.act (by omega) x hox5 (of_decide_eq_true hs)
                  clear hM5 hox5 hb5 hbw5
                  go_wp2_with (refine wpList_load_mid (ty := 41) rfl _ rfl xb _ rfl (opL x) _ (Hra.out _ Hbw5.out) Tryz.underlying41 rfl (by kernel_rfl) ?_)
                  refine hact.mono ?_
                  rintro e w6 ⟨rfl, B', hM6⟩
                  have HM6 := Lib.hid hM6
                  clear hM6 hact
                  go_wp2_with fail
                  go_roundg (gk - 1)
                  case measure => have := Hj.out; omega
                  case rel => exact ⟨j + 1, _, B', by have := Hj.out; omega, by go_num, by omega, HM6.out⟩
          · have Hn50 := Lib.hid hj50
            have hxx : ¬ ((j : Int) < (l.length : Int)) ∨ ((j : Int) < (l.length : Int) ∧ ¬ ((j : Int) < 50)) := by omega
            clear hj hM hj50 hbw hlt
            rcases hxx with h1 | ⟨h1, h2⟩
            · go_wp2_with fail
              go_meet
              exact ⟨j, T, B, Hn50.out, HM.out⟩
            · go_wp2_with fail
              go_meet
              exact ⟨j, T, B, Hn50.out, HM.out⟩
      case rest =>
        obtain ⟨n, T, B, hn, hM⟩ := hcut
        have hmap := hM.map (by omega)
        have HM := Lib.hid hM
        clear hM
        go_wp2_with fail
        refine hmap.mono ?_
        rintro e w7 ⟨v7, rfl, ho7, hb7⟩
        obtain ⟨oa, oc, rfl, _⟩ := ho7.sl fun _ => rfl
        have hs7 := ho7.sl0 (fun _ => rfl)
        have hM7 := HM.out.keep hb7
        have hst := hM7.stats
        unfold Mst.statsV at hst
        have HM7 := Lib.hid hM7
        have HOT : Hid (∀ b off, oa = some ⟨b, off, none⟩ → b < w7.heap.size) := Lib.hid (fun b off e => by
          rcases ho7.from0 with h0 | ⟨g, h0⟩
          · rw [h0] at e; cases e
          · rw [h0] at e; cases e
            rw [h0] at ho7
            exact (ho7.ge rfl).2)
        have HO7 : Hid (∀ b off, oa = some ⟨b, off, none⟩ → B.lab b = .no) := Lib.hid (fun b off e => HM.out.away (by
          rcases ho7.from0 with h0 | ⟨g, h0⟩
          · rw [h0] at e; cases e
          · rw [h0] at e; cases e
            rw [h0] at ho7
            exact (ho7.ge rfl).1))
        have HS7 := Lib.hid hs7
        clear hmap ho7 hb7 hs7 hM7
        go_wp2_with fail
        refine hst.mono ?_
        rintro e w8 ⟨rfl, hb8⟩
        have HM8 := Lib.hid (HM7.out.keep hb8)
        have HS8 := Lib.hid (HS7.out.below hb8)
        have HOL : Hid (∀ b off, oa = some ⟨b, off, none⟩ → B.lab b = .no ∧ b < w8.heap.size) := Lib.hid (fun b off e => ⟨HO7.out b off e, Nat.lt_of_lt_of_le (HOT.out b off e) hb8.size⟩)
        clear hst hb8
        go_upto_if 69 with fail
        generalize hW9 : World.alloc w8 _ = w9
        have hb9 : Below w8.heap.size w8 w9 := by rw [← hW9]; exact (Below.refl _ _).alloc (Nat.le_refl _) _
        have s9 : w9.heap[w8.heap.size]? = some (.cells #[.int .i64 T.cnt.t, .int .i64 T.cnt.l, .int .i64 T.cnt.o, .int .i64 T.cnt.f, .int .i64 (T.L.length : Int), .int .i64 T.now] 46 (0, 0)) := by rw [← hW9]; exact blk_at rfl
        clear hW9
        have HN9 := Lib.hid (HM8.out.away (Nat.le_refl w8.heap.size))
        have HM9 := Lib.hid (HM8.out.keep hb9)
        have HS9 := Lib.hid (HS8.out.below hb9)
        have Hs9 := Lib.hid s9
        have HG9 := Lib.hid HM8.out.below.size
        clear s9 hb9
        go_cut [18] from 69 to 69 (fun s18 wx => ∃ y : Int, s18 = .int .i64 y ∧ (y = 35 ∨ y = 36) ∧ wx = w9)
        case first =>
          cases b
          · go_wp2_with fail
            go_meet
            exact ⟨35, rfl, Or.inl rfl, rfl⟩
          · go_wp2_with fail
            go_meet
            exact ⟨36, rfl, Or.inr rfl, rfl⟩
        case rest =>
          obtain ⟨y, rfl, hy, hwc⟩ := hcut
          have hwc := hwc.symm
          subst hwc
          have HY := Lib.hid hy
          clear hy
          have hwin := within_any se 64 w9 (by decide) (by decide)
          have hwb := wi_bounds se 64 (by decide)
          generalize wi se 64 = s0 at *
          go_wp2_with fail
          refine hwin.mono ?_
          rintro e w9' ⟨rfl, rfl⟩
          clear hwin
          have hq9 := hq.below (Hb1.out.trans (HM9.out.below.mono Hb1.out.size))
          have hask := HM9.out.ask (by omega) (1 + s0) ⟨qk, qi, qe, cells, ⟨fv, fk, fs⟩, ⟨tv, tk, ts⟩, lim⟩ qa qc y hq9 (by have := H100.out; show cells.length ≤ _; omega)
          rw [Mst.ask_out T (1 + s0) ⟨qk, qi, qe, cells, ⟨fv, fk, fs⟩, ⟨tv, tk, ts⟩, lim⟩ y (by omega) (by omega) HY.out] at hask
          have r1' := (HM9.out.below.block _ (by have := Z1.out; omega)).trans R1.out
          have q0 := cell_blk r1' 0
          have q1 := cell_blk r1' 1
          have q2 := cell_blk r1' 2
          have q3 := cell_blk r1' 3
          have q4 := cell_blk r1' 4
          have q5 := cell_blk r1' 5
          have q6 := cell_blk r1' 6
          have q7 := cell_blk r1' 7
          have q8 := cell_blk r1' 8
          have q9 := cell_blk r1' 9
          have q10 := cell_blk r1' 10
          simp at q0 q1 q2 q3 q4 q5 q6 q7 q8 q9 q10
          clear r1' hq9
          have hask2 : Calls Tryz.prog 18 #[.pointer (some ⟨mp, 0, none⟩), .int .i64 (1 + s0), .agg (Rq.at ⟨qk, qi, qe, cells, ⟨fv, fk, fs⟩, ⟨tv, tk, ts⟩, lim⟩ qa qc), .int .i64 y] w9 fun e w' => ∃ (e1 k1 i1 r1 : Int) (oa2 : Option Addr) (oc2 : Nat) (B' : MB), e = .returned (.tuple #[.agg (respL k1 i1 r1 0 (.slice oa2 0 oc2) 0 0 0 0 0 0), .int .i64 e1]) ∧ ((chkRq ⟨qk, qi, qe, cells, ⟨fv, fk, fs⟩, ⟨tv, tk, ts⟩, lim⟩ ≠ 0 ∧ e1 = chkRq ⟨qk, qi, qe, cells, ⟨fv, fk, fs⟩, ⟨tv, tk, ts⟩, lim⟩) ∨ (chkRq ⟨qk, qi, qe, cells, ⟨fv, fk, fs⟩, ⟨tv, tk, ts⟩, lim⟩ = 0 ∧ e1 = 0 ∧ k1 = 5 ∧ i1 = qi ∧ r1 = y)) ∧ Mine W1 w' mp B' T (n + 1) ∧ Turn w9 w' B B' := by
            refine hask.mono ?_
            by_cases hc : chkRq ⟨qk, qi, qe, cells, ⟨fv, fk, fs⟩, ⟨tv, tk, ts⟩, lim⟩ = 0
            · rw [if_pos hc]
              rintro e w' ⟨v, B', rfl, ho, hM, hT, hv⟩
              obtain ⟨oa2, oc2, rfl, _⟩ := ho.sl fun _ => rfl
              exact ⟨_, _, _, _, oa2, oc2, B', rfl, Or.inr ⟨hc, rfl, rfl, rfl, rfl⟩, hM, hT⟩
            · rw [if_neg hc]
              rintro e w' ⟨v, B', rfl, ho, hM, hT, hv⟩
              obtain ⟨oa2, oc2, rfl, _⟩ := ho.sl fun _ => rfl
              exact ⟨_, _, _, _, oa2, oc2, B', rfl, Or.inl ⟨hc, rfl⟩, hM, hT⟩
          clear hask
          dsimp only [Rq.at] at hask2
          generalize hchE : chkRq ⟨qk, qi, qe, cells, ⟨fv, fk, fs⟩, ⟨tv, tk, ts⟩, lim⟩ = ch at *
          have HchE := Lib.hid hchE
          clear hchE
          have hw1 : -1 ≤ s0 := by omega
          go_upto_region 18 with (go_at_call 18; refine hask2.mono ?_; rintro e w10 ⟨e1, k1, i1, r1, oa2, oc2, B1, rfl, hcs, hM10, hT10⟩; have HCS := Lib.hid hcs; have HM10 := Lib.hid hM10; have HT10 := Lib.hid hT10; clear hcs hM10 hT10 hask2)
          generalize hWa : World.alloc w10 _ = wa
          have hba : Below w10.heap.size w10 wa := by rw [← hWa]; exact (Below.refl _ _).alloc (Nat.le_refl _) _
          have ra : wa.heap[w10.heap.size]? = some (.cells (respL k1 i1 r1 0 (.slice oa2 0 oc2) 0 0 0 0 0 0) 50 (0, 0)) := by rw [← hWa]; exact blk_at rfl
          clear hWa q0 q1 q2 q3 q4 q5 q6 q7 q8 q9 q10 hwc
          have haw := HT10.out.away HN9.out (lt_of_block Hs9.out)
          have hgs : w8.heap.size < w10.heap.size := Nat.lt_of_lt_of_le (lt_of_block Hs9.out) HT10.out.chg.size
          have sa : wa.heap[w8.heap.size]? = some (.cells #[.int .i64 T.cnt.t, .int .i64 T.cnt.l, .int .i64 T.cnt.o, .int .i64 T.cnt.f, .int .i64 (T.L.length : Int), .int .i64 T.now] 46 (0, 0)) := ((hba.block _ hgs).trans haw.2).trans Hs9.out
          have hMa := HM10.out.keep hba
          have qa' : wa.heap[W.heap.size + 1]? = some (.cells #[.int .i64 qk, .int .i64 qi, .int .i64 qe, .slice qa cells.length qc, .int .i64 fv, .string fk, .int .i64 fs, .int .i64 tv, .string tk, .int .i64 ts, .int .i64 lim] 30 (0, 0)) := (hMa.below.block _ (by have := Z1.out; omega)).trans R1.out
          have hsa : Sl 7 rowL wa oa T.L := by
            have h1 : ∀ b off, oa = some ⟨b, off, none⟩ → B.lab b = .no := HO7.out
            refine (HS9.out.keep HT10.out.chg.size fun b off e hlt => ?_).below hba
            exact (HT10.out.away (h1 b off e) hlt).2
          have kS : ∀ W', Below wa.heap.size wa W' → RefS wa (W.heap.size + 1) w10.heap.size w8.heap.size (.cells #[.int .i64 qk, .int .i64 qi, .int .i64 qe, .slice qa cells.length qc, .int .i64 fv, .string fk, .int .i64 fs, .int .i64 tv, .string tk, .int .i64 ts, .int .i64 lim] 30 (0, 0)) (.cells (respL k1 i1 r1 0 (.slice oa2 0 oc2) 0 0 0 0 0 0) 50 (0, 0)) (.cells #[.int .i64 T.cnt.t, .int .i64 T.cnt.l, .int .i64 T.cnt.o, .int .i64 T.cnt.f, .int .i64 (T.L.length : Int), .int .i64 T.now] 46 (0, 0)) W' := fun W' h => RefS.of qa' ra sa W' h
          have hqa := hq.below (Hb1.out.trans (hMa.below.mono Hb1.out.size))
          have hchk : ∀ W', Below wa.heap.size wa W' → Calls Tryz.prog 19 #[.agg #[.int .i64 qk, .int .i64 qi, .int .i64 qe, .slice qa cells.length qc, .int .i64 fv, .string fk, .int .i64 fs, .int .i64 tv, .string tk, .int .i64 ts, .int .i64 lim]] W' fun e w' => e = .returned (.int .i64 ch) ∧ Below W'.heap.size W' w' := fun W' h => by
            have := chkRq_any ⟨qk, qi, qe, cells, ⟨fv, fk, fs⟩, ⟨tv, tk, ts⟩, lim⟩ qa qc W' (hqa.below h) (by have := H100.out; show cells.length ≤ _; omega)
            rw [HchE.out] at this
            exact this
          have hstt : ∀ W', Below wa.heap.size wa W' → Calls Tryz.prog 16 #[.pointer (some ⟨mp, 0, none⟩)] W' fun e w' => e = .returned (statV T.cnt.t T.cnt.l T.cnt.o T.cnt.f T.L.length T.now) ∧ Below W'.heap.size W' w' := fun W' h => (hMa.keep h).stats
          have hmap : ∀ W', Below wa.heap.size wa W' → Calls Tryz.prog 15 #[.pointer (some ⟨mp, 0, none⟩)] W' fun e w' => ∃ v, e = .returned v ∧ Own 93 7 rowL W'.heap.size w' v T.L ∧ Below W'.heap.size W' w' := fun W' h => (hMa.keep h).map (by omega)
          have hTl := hMa.max (by omega)
          have hsam : ∀ (od : Option Addr) (cd : Nat) (W' : World), Sl 7 rowL W' od T.L → Below wa.heap.size wa W' → Calls Tryz.prog 20 #[.slice od T.L.length cd, .slice oa T.L.length oc] W' fun e w' => e = .returned (.bool true) ∧ Below W'.heap.size W' w' := fun od cd W' h1 h2 => by
            have := sameRows_any od cd T.L oa oc T.L W' h1 (hsa.below h2) (by omega)
            simpa using this
          have hneS := fun W => run_neq_stats T.cnt.t T.cnt.l T.cnt.o T.cnt.f T.L.length T.now T.cnt.t T.cnt.l T.cnt.o T.cnt.f T.L.length T.now W
          simp only [decide_true, Bool.not_true] at hneS
          have hob0 : ∀ b off, oa = some ⟨b, off, none⟩ → b < w8.heap.size ∧ B1.lab b = .no := fun b off e => by
            obtain ⟨h1, h2⟩ := HOL.out b off e
            exact ⟨h2, (HT10.out.away h1 (Nat.lt_trans h2 (lt_of_block Hs9.out))).1⟩
          have HOB := Lib.hid hob0
          clear hob0
          have HMa := Lib.hid hMa
          have HSa := Lib.hid hsa
          have Hgs := Lib.hid hgs
          have Haw := Lib.hid haw.1
          have Hra := Lib.hid ra
          have Hsa := Lib.hid sa
          have Hqa := Lib.hid qa'
          have HTl := Lib.hid hTl
          have HkS := Lib.hid kS
          clear hba haw hgs hMa hsa ra sa qa' hqa hTl
          go_cut [119] from 81 to 119 (fun s wx => s = .bool false ∧ Below wa.heap.size wa wx)
          case first =>
            have k0 := kS _ (Below.refl _ _).drew
            rcases HCS.out with ⟨hc0, he⟩ | ⟨hc0, he, hk1, hi1, hr1⟩
            · have hch0 : (ch == 0) = false := by simpa using hc0
              have he := he.symm
              subst he
              clear hc0
              refine wp_region_held_drew (S := fun Wz => RefS wa (W.heap.size + 1) w10.heap.size w8.heap.size (.cells #[.int .i64 qk, .int .i64 qi, .int .i64 qe, .slice qa cells.length qc, .int .i64 fv, .string fk, .int .i64 fs, .int .i64 tv, .string tk, .int .i64 ts, .int .i64 lim] 30 (0, 0)) (.cells (respL k1 i1 r1 0 (.slice oa2 0 oc2) 0 0 0 0 0 0) 50 (0, 0)) (.cells #[.int .i64 T.cnt.t, .int .i64 T.cnt.l, .int .i64 T.cnt.o, .int .i64 T.cnt.f, .int .i64 (T.L.length : Int), .int .i64 T.now] 46 (0, 0)) Wz) (by kernel_rfl) k0 (fun hHeld => ?_)
              refine wpAnyH_takeD (i := 0) (oi := _) (d := 81) (v := ?vb0) rfl (by kernel_rfl) (by kernel_rfl) (by kernel_rfl) (by kernel_rfl) (fun _ _ _ h => h) (Or.inl ⟨by kernel_rfl, ?yb0⟩) (by assumption) ?rb0
              case yb0 =>
                intro w' hSw
                try dsimp only at hSw
                go_simp
                try with_reducible rfl
              try simp only [Act.put, List.setIfInBounds_toArray, List.set_cons_zero, List.set_cons_succ]
              refine wpAnyH_takeD (i := 1) (oi := _) (d := 82) (v := ?vb1) rfl (by kernel_rfl) (by kernel_rfl) (by kernel_rfl) (by kernel_rfl) (fun _ _ _ h => h) (Or.inl ⟨by kernel_rfl, ?yb1⟩) (by assumption) ?rb1
              case yb1 =>
                intro w' hSw
                obtain ⟨sB, sQ, sR, sS⟩ := hSw
                have x0 := cell_blk sQ 0
                have x1 := cell_blk sQ 1
                have x2 := cell_blk sQ 2
                have x3 := cell_blk sQ 3
                have x4 := cell_blk sQ 4
                have x5 := cell_blk sQ 5
                have x6 := cell_blk sQ 6
                have x7 := cell_blk sQ 7
                have x8 := cell_blk sQ 8
                have x9 := cell_blk sQ 9
                have x10 := cell_blk sQ 10
                simp at x0 x1 x2 x3 x4 x5 x6 x7 x8 x9 x10
                go_simp
                try with_reducible rfl
              try simp only [Act.put, List.setIfInBounds_toArray, List.set_cons_zero, List.set_cons_succ]
              refine wpAnyH_ready (rs := [2]) (by kernel_rfl) (by simp) ?_
              refine AllReadyH.cons (o := _) rfl (fun K hK => ?_) AllReadyH.nil
              go_simp
              go_at_call 19
              refine (hchk _ (Below.refl _ _).drew).mono ?_
              rintro e wb ⟨rfl, hbb⟩
              have hb0 : Below wa.heap.size wa wb := (Below.refl _ _).drew.trans hbb
              have kB := kS _ hb0
              have Hbb := Lib.hid hb0
              clear hbb hb0
              refine hK.out _ _ kB (fun _ => ?_)
              clear hK K
              try simp only [Act.put, List.setIfInBounds_toArray, List.set_cons_zero, List.set_cons_succ]
              refine wpAnyH_takeD (i := 3) (oi := _) (d := 84) (v := ?vb3) rfl (by kernel_rfl) (by kernel_rfl) (by kernel_rfl) (by kernel_rfl) (fun _ _ _ h => h) (Or.inl ⟨by kernel_rfl, ?yb3⟩) (by assumption) ?rb3
              case yb3 =>
                intro w' hSw
                try dsimp only at hSw
                go_simp
                try with_reducible rfl
              try simp only [Act.put, List.setIfInBounds_toArray, List.set_cons_zero, List.set_cons_succ]
              refine wpAnyH_takeD (i := 4) (oi := _) (d := 85) (v := ?vb4) rfl (by kernel_rfl) (by kernel_rfl) (by kernel_rfl) (by kernel_rfl) (fun _ _ _ h => h) (Or.inl ⟨by kernel_rfl, ?yb4⟩) (by assumption) ?rb4
              case yb4 =>
                intro w' hSw
                try dsimp only at hSw
                go_simp
                try with_reducible rfl
              try simp only [Act.put, List.setIfInBounds_toArray, List.set_cons_zero, List.set_cons_succ]
              refine wpAnyH_takeD (i := 5) (oi := _) (d := 86) (v := ?vb5) rfl (by kernel_rfl) (by kernel_rfl) (by kernel_rfl) (by kernel_rfl) (fun _ _ _ h => h) (Or.inl ⟨by kernel_rfl, ?yb5⟩) (by assumption) ?rb5
              case yb5 =>
                intro w' hSw
                try dsimp only at hSw
                go_simp
                try with_reducible rfl
              try simp only [Act.put, List.setIfInBounds_toArray, List.set_cons_zero, List.set_cons_succ]
              refine wpAnyH_takeD (i := 6) (oi := _) (d := 87) (v := ?vb6) rfl (by kernel_rfl) (by kernel_rfl) (by kernel_rfl) (by kernel_rfl) (fun _ _ _ h => h) (Or.inl ⟨by kernel_rfl, ?yb6⟩) (by assumption) ?rb6
              case yb6 =>
                intro w' hSw
                try dsimp only at hSw
                go_simp
                try with_reducible rfl
              try simp only [Act.put, List.setIfInBounds_toArray, List.set_cons_zero, List.set_cons_succ]
              refine wpAnyH_takeD (i := 7) (oi := _) (d := 88) (v := ?vb7) rfl (by kernel_rfl) (by kernel_rfl) (by kernel_rfl) (by kernel_rfl) (fun _ _ _ h => h) (Or.inl ⟨by kernel_rfl, ?yb7⟩) (by assumption) ?rb7
              case yb7 =>
                intro w' hSw
                try dsimp only at hSw
                go_simp
                try with_reducible rfl
              try simp only [Act.put, List.setIfInBounds_toArray, List.set_cons_zero, List.set_cons_succ]
              refine wpAnyH_takeD (i := 8) (oi := _) (d := 89) (v := undef) rfl (by kernel_rfl) (by kernel_rfl) (by kernel_rfl) (by kernel_rfl) (fun _ _ _ h => h) (Or.inr ⟨by kernel_rfl, rfl⟩) (by assumption) ?_
              try simp only [Act.put, List.setIfInBounds_toArray, List.set_cons_zero, List.set_cons_succ]
              refine wpAnyH_takeD (i := 9) (oi := _) (d := 90) (v := undef) rfl (by kernel_rfl) (by kernel_rfl) (by kernel_rfl) (by kernel_rfl) (fun _ _ _ h => h) (Or.inr ⟨by kernel_rfl, rfl⟩) (by assumption) ?_
              try simp only [Act.put, List.setIfInBounds_toArray, List.set_cons_zero, List.set_cons_succ]
              refine wpAnyH_takeD (i := 10) (oi := _) (d := 91) (v := undef) rfl (by kernel_rfl) (by kernel_rfl) (by kernel_rfl) (by kernel_rfl) (fun _ _ _ h => h) (Or.inr ⟨by kernel_rfl, rfl⟩) (by assumption) ?_
              try simp only [Act.put, List.setIfInBounds_toArray, List.set_cons_zero, List.set_cons_succ]
              refine wpAnyH_takeD (i := 11) (oi := _) (d := 92) (v := undef) rfl (by kernel_rfl) (by kernel_rfl) (by kernel_rfl) (by kernel_rfl) (fun _ _ _ h => h) (Or.inr ⟨by kernel_rfl, rfl⟩) (by assumption) ?_
              try simp only [Act.put, List.setIfInBounds_toArray, List.set_cons_zero, List.set_cons_succ]
              refine wpAnyH_takeD (i := 12) (oi := _) (d := 93) (v := undef) rfl (by kernel_rfl) (by kernel_rfl) (by kernel_rfl) (by kernel_rfl) (fun _ _ _ h => h) (Or.inr ⟨by kernel_rfl, rfl⟩) (by assumption) ?_
              try simp only [Act.put, List.setIfInBounds_toArray, List.set_cons_zero, List.set_cons_succ]
              refine wpAnyH_takeD (i := 13) (oi := _) (d := 94) (v := undef) rfl (by kernel_rfl) (by kernel_rfl) (by kernel_rfl) (by kernel_rfl) (fun _ _ _ h => h) (Or.inr ⟨by kernel_rfl, rfl⟩) (by assumption) ?_
              try simp only [Act.put, List.setIfInBounds_toArray, List.set_cons_zero, List.set_cons_succ]
              refine wpAnyH_takeD (i := 14) (oi := _) (d := 95) (v := undef) rfl (by kernel_rfl) (by kernel_rfl) (by kernel_rfl) (by kernel_rfl) (fun _ _ _ h => h) (Or.inr ⟨by kernel_rfl, rfl⟩) (by assumption) ?_
              try simp only [Act.put, List.setIfInBounds_toArray, List.set_cons_zero, List.set_cons_succ]
              refine wpAnyH_takeD (i := 15) (oi := _) (d := 96) (v := undef) rfl (by kernel_rfl) (by kernel_rfl) (by kernel_rfl) (by kernel_rfl) (fun _ _ _ h => h) (Or.inr ⟨by kernel_rfl, rfl⟩) (by assumption) ?_
              try simp only [Act.put, List.setIfInBounds_toArray, List.set_cons_zero, List.set_cons_succ]
              refine wpAnyH_takeD (i := 16) (oi := _) (d := 97) (v := undef) rfl (by kernel_rfl) (by kernel_rfl) (by kernel_rfl) (by kernel_rfl) (fun _ _ _ h => h) (Or.inr ⟨by kernel_rfl, rfl⟩) (by assumption) ?_
              try simp only [Act.put, List.setIfInBounds_toArray, List.set_cons_zero, List.set_cons_succ]
              refine wpAnyH_takeD (i := 17) (oi := _) (d := 98) (v := undef) rfl (by kernel_rfl) (by kernel_rfl) (by kernel_rfl) (by kernel_rfl) (fun _ _ _ h => h) (Or.inr ⟨by kernel_rfl, rfl⟩) (by assumption) ?_
              try simp only [Act.put, List.setIfInBounds_toArray, List.set_cons_zero, List.set_cons_succ]
              refine wpAnyH_takeD (i := 18) (oi := _) (d := 99) (v := undef) rfl (by kernel_rfl) (by kernel_rfl) (by kernel_rfl) (by kernel_rfl) (fun _ _ _ h => h) (Or.inr ⟨by kernel_rfl, rfl⟩) (by assumption) ?_
              try simp only [Act.put, List.setIfInBounds_toArray, List.set_cons_zero, List.set_cons_succ]
              refine wpAnyH_takeD (i := 19) (oi := _) (d := 100) (v := undef) rfl (by kernel_rfl) (by kernel_rfl) (by kernel_rfl) (by kernel_rfl) (fun _ _ _ h => h) (Or.inr ⟨by kernel_rfl, rfl⟩) (by assumption) ?_
              try simp only [Act.put, List.setIfInBounds_toArray, List.set_cons_zero, List.set_cons_succ]
              refine wpAnyH_takeD (i := 20) (oi := _) (d := 101) (v := undef) rfl (by kernel_rfl) (by kernel_rfl) (by kernel_rfl) (by kernel_rfl) (fun _ _ _ h => h) (Or.inr ⟨by kernel_rfl, rfl⟩) (by assumption) ?_
              try simp only [Act.put, List.setIfInBounds_toArray, List.set_cons_zero, List.set_cons_succ]
              refine wpAnyH_takeD (i := 21) (oi := _) (d := 102) (v := undef) rfl (by kernel_rfl) (by kernel_rfl) (by kernel_rfl) (by kernel_rfl) (fun _ _ _ h => h) (Or.inr ⟨by kernel_rfl, rfl⟩) (by assumption) ?_
              try simp only [Act.put, List.setIfInBounds_toArray, List.set_cons_zero, List.set_cons_succ]
              refine wpAnyH_takeD (i := 22) (oi := _) (d := 103) (v := undef) rfl (by kernel_rfl) (by kernel_rfl) (by kernel_rfl) (by kernel_rfl) (fun _ _ _ h => h) (Or.inr ⟨by kernel_rfl, rfl⟩) (by assumption) ?_
              try simp only [Act.put, List.setIfInBounds_toArray, List.set_cons_zero, List.set_cons_succ]
              refine wpAnyH_takeD (i := 23) (oi := _) (d := 104) (v := undef) rfl (by kernel_rfl) (by kernel_rfl) (by kernel_rfl) (by kernel_rfl) (fun _ _ _ h => h) (Or.inr ⟨by kernel_rfl, rfl⟩) (by assumption) ?_
              try simp only [Act.put, List.setIfInBounds_toArray, List.set_cons_zero, List.set_cons_succ]
              refine wpAnyH_takeD (i := 24) (oi := _) (d := 105) (v := ?vb24) rfl (by kernel_rfl) (by kernel_rfl) (by kernel_rfl) (by kernel_rfl) (fun _ _ _ h => h) (Or.inl ⟨by kernel_rfl, ?yb24⟩) (by assumption) ?rb24
              case yb24 =>
                intro w' hSw
                try dsimp only at hSw
                go_simp
                try with_reducible rfl
              try simp only [Act.put, List.setIfInBounds_toArray, List.set_cons_zero, List.set_cons_succ]
              refine wpAnyH_takeD (i := 25) (oi := _) (d := 106) (v := ?vb25) rfl (by kernel_rfl) (by kernel_rfl) (by kernel_rfl) (by kernel_rfl) (fun _ _ _ h => h) (Or.inl ⟨by kernel_rfl, ?yb25⟩) (by assumption) ?rb25
              case yb25 =>
                intro w' hSw
                try dsimp only at hSw
                go_simp
                try with_reducible rfl
              try simp only [Act.put, List.setIfInBounds_toArray, List.set_cons_zero, List.set_cons_succ]
              refine wpAnyH_takeD (i := 26) (oi := _) (d := 107) (v := ?vb26) rfl (by kernel_rfl) (by kernel_rfl) (by kernel_rfl) (by kernel_rfl) (fun _ _ _ h => h) (Or.inl ⟨by kernel_rfl, ?yb26⟩) (by assumption) ?rb26
              case yb26 =>
                intro w' hSw
                try dsimp only at hSw
                go_simp
                try with_reducible rfl
              try simp only [Act.put, List.setIfInBounds_toArray, List.set_cons_zero, List.set_cons_succ]
              refine wpAnyH_takeD (i := 27) (oi := _) (d := 108) (v := ?vb27) rfl (by kernel_rfl) (by kernel_rfl) (by kernel_rfl) (by kernel_rfl) (fun _ _ _ h => h) (Or.inl ⟨by kernel_rfl, ?yb27⟩) (by assumption) ?rb27
              case yb27 =>
                intro w' hSw
                try dsimp only at hSw
                go_simp
                try with_reducible rfl
              try simp only [Act.put, List.setIfInBounds_toArray, List.set_cons_zero, List.set_cons_succ]
              refine wpAnyH_takeD (i := 29) (oi := _) (d := 110) (v := ?vb29) rfl (by kernel_rfl) (by kernel_rfl) (by kernel_rfl) (by kernel_rfl) (fun _ _ _ h => h) (Or.inl ⟨by kernel_rfl, ?yb29⟩) (by assumption) ?rb29
              case yb29 =>
                intro w' hSw
                obtain ⟨sB, sQ, sR, sS⟩ := hSw
                have x0 := cell_blk sS 0
                have x1 := cell_blk sS 1
                have x2 := cell_blk sS 2
                have x3 := cell_blk sS 3
                have x4 := cell_blk sS 4
                have x5 := cell_blk sS 5
                simp at x0 x1 x2 x3 x4 x5
                go_simp
                try with_reducible rfl
              try simp only [Act.put, List.setIfInBounds_toArray, List.set_cons_zero, List.set_cons_succ]
              refine wpAnyH_ready (rs := [28]) (by kernel_rfl) (by simp) ?_
              refine AllReadyH.cons (o := _) rfl (fun K hK => ?_) AllReadyH.nil
              go_simp
              go_at_call 16
              refine (hstt _ Hbb.out).mono ?_
              rintro e wc ⟨rfl, hbc⟩
              have hb0 : Below wa.heap.size wa wc := Hbb.out.trans (hbc.mono Hbb.out.size)
              have kC := kS _ hb0
              have Hbc := Lib.hid hb0
              clear hbc hb0
              refine hK.out _ _ kC (fun _ => ?_)
              clear hK K
              try simp only [Act.put, List.setIfInBounds_toArray, List.set_cons_zero, List.set_cons_succ]
              refine wpAnyH_takeD (i := 30) (oi := _) (d := 111) (v := ?vb30) rfl (by kernel_rfl) (by kernel_rfl) (by kernel_rfl) (by kernel_rfl) (fun _ _ _ h => h) (Or.inl ⟨by kernel_rfl, ?yb30⟩) (by assumption) ?rb30
              case yb30 =>
                intro w' hSw
                try dsimp only at hSw
                go_simp
                try with_reducible rfl
              try simp only [Act.put, List.setIfInBounds_toArray, List.set_cons_zero, List.set_cons_succ]
              refine wpAnyH_takeD (i := 31) (oi := _) (d := 112) (v := ?vb31) rfl (by kernel_rfl) (by kernel_rfl) (by kernel_rfl) (by kernel_rfl) (fun _ _ _ h => h) (Or.inl ⟨by kernel_rfl, ?yb31⟩) (by assumption) ?rb31
              case yb31 =>
                intro w' hSw
                try dsimp only at hSw
                go_simp
                try with_reducible rfl
              try simp only [Act.put, List.setIfInBounds_toArray, List.set_cons_zero, List.set_cons_succ]
              refine wpAnyH_takeD (i := 32) (oi := _) (d := 113) (v := ?vb32) rfl (by kernel_rfl) (by kernel_rfl) (by kernel_rfl) (by kernel_rfl) (fun _ _ _ h => h) (Or.inl ⟨by kernel_rfl, ?yb32⟩) (by assumption) ?rb32
              case yb32 =>
                intro w' hSw
                try dsimp only at hSw
                go_simp
                try with_reducible rfl
              try simp only [Act.put, List.setIfInBounds_toArray, List.set_cons_zero, List.set_cons_succ]
              refine wpAnyH_takeD (i := 33) (oi := _) (d := 114) (v := ?vb33) rfl (by kernel_rfl) (by kernel_rfl) (by kernel_rfl) (by kernel_rfl) (fun _ _ _ h => h) (Or.inl ⟨by kernel_rfl, ?yb33⟩) (by assumption) ?rb33
              case yb33 =>
                intro w' hSw
                try dsimp only at hSw
                go_simp
                try with_reducible rfl
              try simp only [Act.put, List.setIfInBounds_toArray, List.set_cons_zero, List.set_cons_succ]
              refine wpAnyH_takeD (i := 35) (oi := _) (d := 116) (v := ?vb35) rfl (by kernel_rfl) (by kernel_rfl) (by kernel_rfl) (by kernel_rfl) (fun _ _ _ h => h) (Or.inl ⟨by kernel_rfl, ?yb35⟩) (by assumption) ?rb35
              case yb35 =>
                intro w' hSw
                try dsimp only at hSw
                go_simp
                try with_reducible rfl
              try simp only [Act.put, List.setIfInBounds_toArray, List.set_cons_zero, List.set_cons_succ]
              refine wpAnyH_ready (rs := [34]) (by kernel_rfl) (by simp) ?_
              refine AllReadyH.cons (o := _) rfl (fun K hK => ?_) AllReadyH.nil
              go_simp
              go_at_call 15
              refine (hmap _ Hbc.out).mono ?_
              rintro e wd ⟨vd, rfl, hod, hbd⟩
              obtain ⟨od, cd, rfl, _⟩ := hod.sl fun _ => rfl
              have hb0 : Below wa.heap.size wa wd := Hbc.out.trans (hbd.mono Hbc.out.size)
              have kD := kS _ hb0
              have hsm := hsam od cd wd (hod.sl0 (fun _ => rfl)) hb0
              have Hbd := Lib.hid hb0
              clear hod hbd hb0
              refine hK.out _ _ kD (fun _ => ?_)
              clear hK K
              try simp only [Act.put, List.setIfInBounds_toArray, List.set_cons_zero, List.set_cons_succ]
              refine wpAnyH_ready (rs := [36]) (by kernel_rfl) (by simp) ?_
              refine AllReadyH.cons (o := _) rfl (fun K hK => ?_) AllReadyH.nil
              go_simp
              go_at_call 20
              refine hsm.mono ?_
              rintro e we ⟨rfl, hbe⟩
              have hb0 : Below wa.heap.size wa we := Hbd.out.trans (hbe.mono Hbd.out.size)
              have kE := kS _ hb0
              have Hbe := Lib.hid hb0
              clear hbe hb0 hsm
              refine hK.out _ _ kE (fun _ => ?_)
              clear hK K
              try simp only [Act.put, List.setIfInBounds_toArray, List.set_cons_zero, List.set_cons_succ]
              refine wpAnyH_takeD (i := 37) (oi := _) (d := 118) (v := ?vb37) rfl (by kernel_rfl) (by kernel_rfl) (by kernel_rfl) (by kernel_rfl) (fun _ _ _ h => h) (Or.inl ⟨by kernel_rfl, ?yb37⟩) (by assumption) ?rb37
              case yb37 =>
                intro w' hSw
                try dsimp only at hSw
                go_simp
                try with_reducible rfl
              try simp only [Act.put, List.setIfInBounds_toArray, List.set_cons_zero, List.set_cons_succ]
              refine wpAnyH_takeD (i := 38) (oi := _) (d := 119) (v := ?vb38) rfl (by kernel_rfl) (by kernel_rfl) (by kernel_rfl) (by kernel_rfl) (fun _ _ _ h => h) (Or.inl ⟨by kernel_rfl, ?yb38⟩) (by assumption) ?rb38
              case yb38 =>
                intro w' hSw
                try dsimp only at hSw
                go_simp
                try with_reducible rfl
              try simp only [Act.put, List.setIfInBounds_toArray, List.set_cons_zero, List.set_cons_succ]
              refine wpAnyH_done (by kernel_rfl) ?_ _
              go_wp2_with fail
              go_meet
              exact ⟨rfl, Hbe.out⟩
            · subst hc0
              subst he
              subst hk1
              have hi1 := hi1.symm
              subst hi1
              have hr1 := hr1.symm
              subst hr1
              refine wp_region_held_drew (S := fun Wz => RefS wa (W.heap.size + 1) w10.heap.size w8.heap.size (.cells #[.int .i64 qk, .int .i64 qi, .int .i64 qe, .slice qa cells.length qc, .int .i64 fv, .string fk, .int .i64 fs, .int .i64 tv, .string tk, .int .i64 ts, .int .i64 lim] 30 (0, 0)) (.cells (respL 5 qi y 0 (.slice oa2 0 oc2) 0 0 0 0 0 0) 50 (0, 0)) (.cells #[.int .i64 T.cnt.t, .int .i64 T.cnt.l, .int .i64 T.cnt.o, .int .i64 T.cnt.f, .int .i64 (T.L.length : Int), .int .i64 T.now] 46 (0, 0)) Wz) (by kernel_rfl) k0 (fun hHeld => ?_)
              refine wpAnyH_takeD (i := 0) (oi := _) (d := 81) (v := ?vc0) rfl (by kernel_rfl) (by kernel_rfl) (by kernel_rfl) (by kernel_rfl) (fun _ _ _ h => h) (Or.inl ⟨by kernel_rfl, ?yc0⟩) (by assumption) ?rc0
              case yc0 =>
                intro w' hSw
                try dsimp only at hSw
                go_simp
                try with_reducible rfl
              try simp only [Act.put, List.setIfInBounds_toArray, List.set_cons_zero, List.set_cons_succ]
              refine wpAnyH_takeD (i := 1) (oi := _) (d := 82) (v := ?vc1) rfl (by kernel_rfl) (by kernel_rfl) (by kernel_rfl) (by kernel_rfl) (fun _ _ _ h => h) (Or.inl ⟨by kernel_rfl, ?yc1⟩) (by assumption) ?rc1
              case yc1 =>
                intro w' hSw
                obtain ⟨sB, sQ, sR, sS⟩ := hSw
                have x0 := cell_blk sQ 0
                have x1 := cell_blk sQ 1
                have x2 := cell_blk sQ 2
                have x3 := cell_blk sQ 3
                have x4 := cell_blk sQ 4
                have x5 := cell_blk sQ 5
                have x6 := cell_blk sQ 6
                have x7 := cell_blk sQ 7
                have x8 := cell_blk sQ 8
                have x9 := cell_blk sQ 9
                have x10 := cell_blk sQ 10
                simp at x0 x1 x2 x3 x4 x5 x6 x7 x8 x9 x10
                go_simp
                try with_reducible rfl
              try simp only [Act.put, List.setIfInBounds_toArray, List.set_cons_zero, List.set_cons_succ]
              refine wpAnyH_ready (rs := [2]) (by kernel_rfl) (by simp) ?_
              refine AllReadyH.cons (o := _) rfl (fun K hK => ?_) AllReadyH.nil
              go_simp
              go_at_call 19
              refine (hchk _ (Below.refl _ _).drew).mono ?_
              rintro e wb ⟨rfl, hbb⟩
              have hb0 : Below wa.heap.size wa wb := (Below.refl _ _).drew.trans hbb
              have kB := kS _ hb0
              have Hbb := Lib.hid hb0
              clear hbb hb0
              refine hK.out _ _ kB (fun _ => ?_)
              clear hK K
              try simp only [Act.put, List.setIfInBounds_toArray, List.set_cons_zero, List.set_cons_succ]
              refine wpAnyH_takeD (i := 3) (oi := _) (d := 84) (v := ?vc3) rfl (by kernel_rfl) (by kernel_rfl) (by kernel_rfl) (by kernel_rfl) (fun _ _ _ h => h) (Or.inl ⟨by kernel_rfl, ?yc3⟩) (by assumption) ?rc3
              case yc3 =>
                intro w' hSw
                try dsimp only at hSw
                go_simp
                try with_reducible rfl
              try simp only [Act.put, List.setIfInBounds_toArray, List.set_cons_zero, List.set_cons_succ]
              refine wpAnyH_takeD (i := 4) (oi := _) (d := 85) (v := ?vc4) rfl (by kernel_rfl) (by kernel_rfl) (by kernel_rfl) (by kernel_rfl) (fun _ _ _ h => h) (Or.inl ⟨by kernel_rfl, ?yc4⟩) (by assumption) ?rc4
              case yc4 =>
                intro w' hSw
                try dsimp only at hSw
                go_simp
                try with_reducible rfl
              try simp only [Act.put, List.setIfInBounds_toArray, List.set_cons_zero, List.set_cons_succ]
              refine wpAnyH_takeD (i := 5) (oi := _) (d := 86) (v := ?vc5) rfl (by kernel_rfl) (by kernel_rfl) (by kernel_rfl) (by kernel_rfl) (fun _ _ _ h => h) (Or.inl ⟨by kernel_rfl, ?yc5⟩) (by assumption) ?rc5
              case yc5 =>
                intro w' hSw
                try dsimp only at hSw
                go_simp
                try with_reducible rfl
              try simp only [Act.put, List.setIfInBounds_toArray, List.set_cons_zero, List.set_cons_succ]
              refine wpAnyH_takeD (i := 6) (oi := _) (d := 87) (v := ?vc6) rfl (by kernel_rfl) (by kernel_rfl) (by kernel_rfl) (by kernel_rfl) (fun _ _ _ h => h) (Or.inl ⟨by kernel_rfl, ?yc6⟩) (by assumption) ?rc6
              case yc6 =>
                intro w' hSw
                try dsimp only at hSw
                go_simp
                try with_reducible rfl
              try simp only [Act.put, List.setIfInBounds_toArray, List.set_cons_zero, List.set_cons_succ]
              refine wpAnyH_takeD (i := 7) (oi := _) (d := 88) (v := ?vc7) rfl (by kernel_rfl) (by kernel_rfl) (by kernel_rfl) (by kernel_rfl) (fun _ _ _ h => h) (Or.inl ⟨by kernel_rfl, ?yc7⟩) (by assumption) ?rc7
              case yc7 =>
                intro w' hSw
                try dsimp only at hSw
                go_simp
                try with_reducible rfl
              try simp only [Act.put, List.setIfInBounds_toArray, List.set_cons_zero, List.set_cons_succ]
              refine wpAnyH_takeD (i := 8) (oi := _) (d := 89) (v := ?vc8) rfl (by kernel_rfl) (by kernel_rfl) (by kernel_rfl) (by kernel_rfl) (fun _ _ _ h => h) (Or.inl ⟨by kernel_rfl, ?yc8⟩) (by assumption) ?rc8
              case yc8 =>
                intro w' hSw
                try dsimp only at hSw
                go_simp
                try with_reducible rfl
              try simp only [Act.put, List.setIfInBounds_toArray, List.set_cons_zero, List.set_cons_succ]
              refine wpAnyH_takeD (i := 9) (oi := _) (d := 90) (v := ?vc9) rfl (by kernel_rfl) (by kernel_rfl) (by kernel_rfl) (by kernel_rfl) (fun _ _ _ h => h) (Or.inl ⟨by kernel_rfl, ?yc9⟩) (by assumption) ?rc9
              case yc9 =>
                intro w' hSw
                obtain ⟨sB, sQ, sR, sS⟩ := hSw
                have x := cell_blk sR 0
                simp at x
                go_simp
                try with_reducible rfl
              try simp only [Act.put, List.setIfInBounds_toArray, List.set_cons_zero, List.set_cons_succ]
              refine wpAnyH_takeD (i := 10) (oi := _) (d := 91) (v := ?vc10) rfl (by kernel_rfl) (by kernel_rfl) (by kernel_rfl) (by kernel_rfl) (fun _ _ _ h => h) (Or.inl ⟨by kernel_rfl, ?yc10⟩) (by assumption) ?rc10
              case yc10 =>
                intro w' hSw
                try dsimp only at hSw
                go_simp
                try with_reducible rfl
              try simp only [Act.put, List.setIfInBounds_toArray, List.set_cons_zero, List.set_cons_succ]
              refine wpAnyH_takeD (i := 11) (oi := _) (d := 92) (v := ?vc11) rfl (by kernel_rfl) (by kernel_rfl) (by kernel_rfl) (by kernel_rfl) (fun _ _ _ h => h) (Or.inl ⟨by kernel_rfl, ?yc11⟩) (by assumption) ?rc11
              case yc11 =>
                intro w' hSw
                try dsimp only at hSw
                go_simp
                try with_reducible rfl
              try simp only [Act.put, List.setIfInBounds_toArray, List.set_cons_zero, List.set_cons_succ]
              refine wpAnyH_takeD (i := 12) (oi := _) (d := 93) (v := ?vc12) rfl (by kernel_rfl) (by kernel_rfl) (by kernel_rfl) (by kernel_rfl) (fun _ _ _ h => h) (Or.inl ⟨by kernel_rfl, ?yc12⟩) (by assumption) ?rc12
              case yc12 =>
                intro w' hSw
                try dsimp only at hSw
                go_simp
                try with_reducible rfl
              try simp only [Act.put, List.setIfInBounds_toArray, List.set_cons_zero, List.set_cons_succ]
              refine wpAnyH_takeD (i := 13) (oi := _) (d := 94) (v := ?vc13) rfl (by kernel_rfl) (by kernel_rfl) (by kernel_rfl) (by kernel_rfl) (fun _ _ _ h => h) (Or.inl ⟨by kernel_rfl, ?yc13⟩) (by assumption) ?rc13
              case yc13 =>
                intro w' hSw
                obtain ⟨sB, sQ, sR, sS⟩ := hSw
                have x := cell_blk sR 2
                simp at x
                go_simp
                try with_reducible rfl
              try simp only [Act.put, List.setIfInBounds_toArray, List.set_cons_zero, List.set_cons_succ]
              refine wpAnyH_takeD (i := 14) (oi := _) (d := 95) (v := ?vc14) rfl (by kernel_rfl) (by kernel_rfl) (by kernel_rfl) (by kernel_rfl) (fun _ _ _ h => h) (Or.inl ⟨by kernel_rfl, ?yc14⟩) (by assumption) ?rc14
              case yc14 =>
                intro w' hSw
                try dsimp only at hSw
                go_simp
                try with_reducible rfl
              try simp only [Act.put, List.setIfInBounds_toArray, List.set_cons_zero, List.set_cons_succ]
              refine wpAnyH_takeD (i := 15) (oi := _) (d := 96) (v := ?vc15) rfl (by kernel_rfl) (by kernel_rfl) (by kernel_rfl) (by kernel_rfl) (fun _ _ _ h => h) (Or.inl ⟨by kernel_rfl, ?yc15⟩) (by assumption) ?rc15
              case yc15 =>
                intro w' hSw
                try dsimp only at hSw
                go_simp
                try with_reducible rfl
              try simp only [Act.put, List.setIfInBounds_toArray, List.set_cons_zero, List.set_cons_succ]
              refine wpAnyH_takeD (i := 16) (oi := _) (d := 97) (v := ?vc16) rfl (by kernel_rfl) (by kernel_rfl) (by kernel_rfl) (by kernel_rfl) (fun _ _ _ h => h) (Or.inl ⟨by kernel_rfl, ?yc16⟩) (by assumption) ?rc16
              case yc16 =>
                intro w' hSw
                try dsimp only at hSw
                go_simp
                try with_reducible rfl
              try simp only [Act.put, List.setIfInBounds_toArray, List.set_cons_zero, List.set_cons_succ]
              refine wpAnyH_takeD (i := 17) (oi := _) (d := 98) (v := ?vc17) rfl (by kernel_rfl) (by kernel_rfl) (by kernel_rfl) (by kernel_rfl) (fun _ _ _ h => h) (Or.inl ⟨by kernel_rfl, ?yc17⟩) (by assumption) ?rc17
              case yc17 =>
                intro w' hSw
                try dsimp only at hSw
                go_simp
                try with_reducible rfl
              try simp only [Act.put, List.setIfInBounds_toArray, List.set_cons_zero, List.set_cons_succ]
              refine wpAnyH_takeD (i := 18) (oi := _) (d := 99) (v := ?vc18) rfl (by kernel_rfl) (by kernel_rfl) (by kernel_rfl) (by kernel_rfl) (fun _ _ _ h => h) (Or.inl ⟨by kernel_rfl, ?yc18⟩) (by assumption) ?rc18
              case yc18 =>
                intro w' hSw
                try dsimp only at hSw
                go_simp
                try with_reducible rfl
              try simp only [Act.put, List.setIfInBounds_toArray, List.set_cons_zero, List.set_cons_succ]
              refine wpAnyH_takeD (i := 19) (oi := _) (d := 100) (v := ?vc19) rfl (by kernel_rfl) (by kernel_rfl) (by kernel_rfl) (by kernel_rfl) (fun _ _ _ h => h) (Or.inl ⟨by kernel_rfl, ?yc19⟩) (by assumption) ?rc19
              case yc19 =>
                intro w' hSw
                obtain ⟨sB, sQ, sR, sS⟩ := hSw
                have x := cell_blk sR 1
                simp at x
                go_simp
                try with_reducible rfl
              try simp only [Act.put, List.setIfInBounds_toArray, List.set_cons_zero, List.set_cons_succ]
              refine wpAnyH_takeD (i := 20) (oi := _) (d := 101) (v := ?vc20) rfl (by kernel_rfl) (by kernel_rfl) (by kernel_rfl) (by kernel_rfl) (fun _ _ _ h => h) (Or.inl ⟨by kernel_rfl, ?yc20⟩) (by assumption) ?rc20
              case yc20 =>
                intro w' hSw
                try dsimp only at hSw
                go_simp
                try with_reducible rfl
              try simp only [Act.put, List.setIfInBounds_toArray, List.set_cons_zero, List.set_cons_succ]
              refine wpAnyH_takeD (i := 21) (oi := _) (d := 102) (v := ?vc21) rfl (by kernel_rfl) (by kernel_rfl) (by kernel_rfl) (by kernel_rfl) (fun _ _ _ h => h) (Or.inl ⟨by kernel_rfl, ?yc21⟩) (by assumption) ?rc21
              case yc21 =>
                intro w' hSw
                obtain ⟨sB, sQ, sR, sS⟩ := hSw
                have x := cell_blk sQ 1
                simp at x
                go_simp
                try with_reducible rfl
              try simp only [Act.put, List.setIfInBounds_toArray, List.set_cons_zero, List.set_cons_succ]
              refine wpAnyH_takeD (i := 22) (oi := _) (d := 103) (v := ?vc22) rfl (by kernel_rfl) (by kernel_rfl) (by kernel_rfl) (by kernel_rfl) (fun _ _ _ h => h) (Or.inl ⟨by kernel_rfl, ?yc22⟩) (by assumption) ?rc22
              case yc22 =>
                intro w' hSw
                try dsimp only at hSw
                go_simp
                try with_reducible rfl
              try simp only [Act.put, List.setIfInBounds_toArray, List.set_cons_zero, List.set_cons_succ]
              refine wpAnyH_takeD (i := 23) (oi := _) (d := 104) (v := ?vc23) rfl (by kernel_rfl) (by kernel_rfl) (by kernel_rfl) (by kernel_rfl) (fun _ _ _ h => h) (Or.inl ⟨by kernel_rfl, ?yc23⟩) (by assumption) ?rc23
              case yc23 =>
                intro w' hSw
                try dsimp only at hSw
                go_simp
                try with_reducible rfl
              try simp only [Act.put, List.setIfInBounds_toArray, List.set_cons_zero, List.set_cons_succ]
              refine wpAnyH_takeD (i := 24) (oi := _) (d := 105) (v := ?vc24) rfl (by kernel_rfl) (by kernel_rfl) (by kernel_rfl) (by kernel_rfl) (fun _ _ _ h => h) (Or.inl ⟨by kernel_rfl, ?yc24⟩) (by assumption) ?rc24
              case yc24 =>
                intro w' hSw
                try dsimp only at hSw
                go_simp
                try with_reducible rfl
              try simp only [Act.put, List.setIfInBounds_toArray, List.set_cons_zero, List.set_cons_succ]
              refine wpAnyH_takeD (i := 25) (oi := _) (d := 106) (v := ?vc25) rfl (by kernel_rfl) (by kernel_rfl) (by kernel_rfl) (by kernel_rfl) (fun _ _ _ h => h) (Or.inl ⟨by kernel_rfl, ?yc25⟩) (by assumption) ?rc25
              case yc25 =>
                intro w' hSw
                try dsimp only at hSw
                go_simp
                try with_reducible rfl
              try simp only [Act.put, List.setIfInBounds_toArray, List.set_cons_zero, List.set_cons_succ]
              refine wpAnyH_takeD (i := 26) (oi := _) (d := 107) (v := ?vc26) rfl (by kernel_rfl) (by kernel_rfl) (by kernel_rfl) (by kernel_rfl) (fun _ _ _ h => h) (Or.inl ⟨by kernel_rfl, ?yc26⟩) (by assumption) ?rc26
              case yc26 =>
                intro w' hSw
                try dsimp only at hSw
                go_simp
                try with_reducible rfl
              try simp only [Act.put, List.setIfInBounds_toArray, List.set_cons_zero, List.set_cons_succ]
              refine wpAnyH_takeD (i := 27) (oi := _) (d := 108) (v := ?vc27) rfl (by kernel_rfl) (by kernel_rfl) (by kernel_rfl) (by kernel_rfl) (fun _ _ _ h => h) (Or.inl ⟨by kernel_rfl, ?yc27⟩) (by assumption) ?rc27
              case yc27 =>
                intro w' hSw
                try dsimp only at hSw
                go_simp
                try with_reducible rfl
              try simp only [Act.put, List.setIfInBounds_toArray, List.set_cons_zero, List.set_cons_succ]
              refine wpAnyH_takeD (i := 29) (oi := _) (d := 110) (v := ?vc29) rfl (by kernel_rfl) (by kernel_rfl) (by kernel_rfl) (by kernel_rfl) (fun _ _ _ h => h) (Or.inl ⟨by kernel_rfl, ?yc29⟩) (by assumption) ?rc29
              case yc29 =>
                intro w' hSw
                obtain ⟨sB, sQ, sR, sS⟩ := hSw
                have x0 := cell_blk sS 0
                have x1 := cell_blk sS 1
                have x2 := cell_blk sS 2
                have x3 := cell_blk sS 3
                have x4 := cell_blk sS 4
                have x5 := cell_blk sS 5
                simp at x0 x1 x2 x3 x4 x5
                go_simp
                try with_reducible rfl
              try simp only [Act.put, List.setIfInBounds_toArray, List.set_cons_zero, List.set_cons_succ]
              refine wpAnyH_ready (rs := [28]) (by kernel_rfl) (by simp) ?_
              refine AllReadyH.cons (o := _) rfl (fun K hK => ?_) AllReadyH.nil
              go_simp
              go_at_call 16
              refine (hstt _ Hbb.out).mono ?_
              rintro e wc ⟨rfl, hbc⟩
              have hb0 : Below wa.heap.size wa wc := Hbb.out.trans (hbc.mono Hbb.out.size)
              have kC := kS _ hb0
              have Hbc := Lib.hid hb0
              clear hbc hb0
              refine hK.out _ _ kC (fun _ => ?_)
              clear hK K
              try simp only [Act.put, List.setIfInBounds_toArray, List.set_cons_zero, List.set_cons_succ]
              refine wpAnyH_takeD (i := 30) (oi := _) (d := 111) (v := ?vc30) rfl (by kernel_rfl) (by kernel_rfl) (by kernel_rfl) (by kernel_rfl) (fun _ _ _ h => h) (Or.inl ⟨by kernel_rfl, ?yc30⟩) (by assumption) ?rc30
              case yc30 =>
                intro w' hSw
                try dsimp only at hSw
                go_simp
                try with_reducible rfl
              try simp only [Act.put, List.setIfInBounds_toArray, List.set_cons_zero, List.set_cons_succ]
              refine wpAnyH_takeD (i := 31) (oi := _) (d := 112) (v := ?vc31) rfl (by kernel_rfl) (by kernel_rfl) (by kernel_rfl) (by kernel_rfl) (fun _ _ _ h => h) (Or.inl ⟨by kernel_rfl, ?yc31⟩) (by assumption) ?rc31
              case yc31 =>
                intro w' hSw
                try dsimp only at hSw
                go_simp
                try with_reducible rfl
              try simp only [Act.put, List.setIfInBounds_toArray, List.set_cons_zero, List.set_cons_succ]
              refine wpAnyH_takeD (i := 32) (oi := _) (d := 113) (v := ?vc32) rfl (by kernel_rfl) (by kernel_rfl) (by kernel_rfl) (by kernel_rfl) (fun _ _ _ h => h) (Or.inl ⟨by kernel_rfl, ?yc32⟩) (by assumption) ?rc32
              case yc32 =>
                intro w' hSw
                try dsimp only at hSw
                go_simp
                try with_reducible rfl
              try simp only [Act.put, List.setIfInBounds_toArray, List.set_cons_zero, List.set_cons_succ]
              refine wpAnyH_takeD (i := 33) (oi := _) (d := 114) (v := ?vc33) rfl (by kernel_rfl) (by kernel_rfl) (by kernel_rfl) (by kernel_rfl) (fun _ _ _ h => h) (Or.inl ⟨by kernel_rfl, ?yc33⟩) (by assumption) ?rc33
              case yc33 =>
                intro w' hSw
                try dsimp only at hSw
                go_simp
                try with_reducible rfl
              try simp only [Act.put, List.setIfInBounds_toArray, List.set_cons_zero, List.set_cons_succ]
              refine wpAnyH_takeD (i := 35) (oi := _) (d := 116) (v := ?vc35) rfl (by kernel_rfl) (by kernel_rfl) (by kernel_rfl) (by kernel_rfl) (fun _ _ _ h => h) (Or.inl ⟨by kernel_rfl, ?yc35⟩) (by assumption) ?rc35
              case yc35 =>
                intro w' hSw
                try dsimp only at hSw
                go_simp
                try with_reducible rfl
              try simp only [Act.put, List.setIfInBounds_toArray, List.set_cons_zero, List.set_cons_succ]
              refine wpAnyH_ready (rs := [34]) (by kernel_rfl) (by simp) ?_
              refine AllReadyH.cons (o := _) rfl (fun K hK => ?_) AllReadyH.nil
              go_simp
              go_at_call 15
              refine (hmap _ Hbc.out).mono ?_
              rintro e wd ⟨vd, rfl, hod, hbd⟩
              obtain ⟨od, cd, rfl, _⟩ := hod.sl fun _ => rfl
              have hb0 : Below wa.heap.size wa wd := Hbc.out.trans (hbd.mono Hbc.out.size)
              have kD := kS _ hb0
              have hsm := hsam od cd wd (hod.sl0 (fun _ => rfl)) hb0
              have Hbd := Lib.hid hb0
              clear hod hbd hb0
              refine hK.out _ _ kD (fun _ => ?_)
              clear hK K
              try simp only [Act.put, List.setIfInBounds_toArray, List.set_cons_zero, List.set_cons_succ]
              refine wpAnyH_ready (rs := [36]) (by kernel_rfl) (by simp) ?_
              refine AllReadyH.cons (o := _) rfl (fun K hK => ?_) AllReadyH.nil
              go_simp
              go_at_call 20
              refine hsm.mono ?_
              rintro e we ⟨rfl, hbe⟩
              have hb0 : Below wa.heap.size wa we := Hbd.out.trans (hbe.mono Hbd.out.size)
              have kE := kS _ hb0
              have Hbe := Lib.hid hb0
              clear hbe hb0 hsm
              refine hK.out _ _ kE (fun _ => ?_)
              clear hK K
              try simp only [Act.put, List.setIfInBounds_toArray, List.set_cons_zero, List.set_cons_succ]
              refine wpAnyH_takeD (i := 37) (oi := _) (d := 118) (v := ?vc37) rfl (by kernel_rfl) (by kernel_rfl) (by kernel_rfl) (by kernel_rfl) (fun _ _ _ h => h) (Or.inl ⟨by kernel_rfl, ?yc37⟩) (by assumption) ?rc37
              case yc37 =>
                intro w' hSw
                try dsimp only at hSw
                go_simp
                try with_reducible rfl
              try simp only [Act.put, List.setIfInBounds_toArray, List.set_cons_zero, List.set_cons_succ]
              refine wpAnyH_takeD (i := 38) (oi := _) (d := 119) (v := ?vc38) rfl (by kernel_rfl) (by kernel_rfl) (by kernel_rfl) (by kernel_rfl) (fun _ _ _ h => h) (Or.inl ⟨by kernel_rfl, ?yc38⟩) (by assumption) ?rc38
              case yc38 =>
                intro w' hSw
                try dsimp only at hSw
                go_simp
                try with_reducible rfl
              try simp only [Act.put, List.setIfInBounds_toArray, List.set_cons_zero, List.set_cons_succ]
              refine wpAnyH_done (by kernel_rfl) ?_ _
              go_wp2_with fail
              go_meet
              exact ⟨rfl, Hbe.out⟩
          case rest =>
            obtain ⟨rfl, hbx⟩ := hcut
            have hMx := HMa.out.keep hbx
            have hrx := (hbx.block _ (lt_of_block Hra.out)).trans Hra.out
            have hsx := (hbx.block _ (lt_of_block Hsa.out)).trans Hsa.out
            have HSx := Lib.hid (HSa.out.below hbx)
            have hqx := (hMx.below.block _ (by have := Z1.out; omega)).trans R1.out
            have q0 := cell_blk hqx 0
            have q1 := cell_blk hqx 1
            have q2 := cell_blk hqx 2
            have q3 := cell_blk hqx 3
            have q4 := cell_blk hqx 4
            have q5 := cell_blk hqx 5
            have q6 := cell_blk hqx 6
            have q7 := cell_blk hqx 7
            have q8 := cell_blk hqx 8
            have q9 := cell_blk hqx 9
            have q10 := cell_blk hqx 10
            simp at q0 q1 q2 q3 q4 q5 q6 q7 q8 q9 q10
            have hask := hMx.ask (by omega) (1 + s0) ⟨qk, qi, qe, cells, ⟨fv, fk, fs⟩, ⟨tv, tk, ts⟩, lim⟩ qa qc 0 (hq.below (Hb1.out.trans (hMx.below.mono Hb1.out.size))) (by have := H100.out; show cells.length ≤ _; omega)
            have hnr := HM10.out.away (Nat.le_refl w10.heap.size)
            have hask2 : Calls Tryz.prog 18 #[.pointer (some ⟨mp, 0, none⟩), .int .i64 (1 + s0), .agg #[.int .i64 qk, .int .i64 qi, .int .i64 qe, .slice qa cells.length qc, .int .i64 fv, .string fk, .int .i64 fs, .int .i64 tv, .string tk, .int .i64 ts, .int .i64 lim], .int .i64 0] wc fun e w' => ∃ (e2 k2 i2 r2 p2 t2 l2 o2 f2 c2 n2 : Int) (oa3 : Option Addr) (nn3 oc3 : Nat) (T2 : Mst) (B2 : MB), e = .returned (.tuple #[.agg (respL k2 i2 r2 p2 (.slice oa3 nn3 oc3) t2 l2 o2 f2 c2 n2), .int .i64 e2]) ∧ T2.L = T.L ∧ (e2 = 0 → k2 = 5 → T2 = T) ∧ Mine W1 w' mp B2 T2 (n + 2) ∧ Turn wc w' B1 B2 := by
              refine hask.mono ?_
              rintro e w' ⟨v, B', rfl, ho, hM, hT, hv⟩
              obtain ⟨oa3, oc3, rfl, _⟩ := ho.sl fun _ => rfl
              exact ⟨_, _, _, _, _, _, _, _, _, _, _, oa3, _, oc3, _, B', rfl, (T.ask_L _ _ _).1, T.ask_err _ _ _, hM, hT⟩
            have Hrx := Lib.hid hrx
            have Hsx := Lib.hid hsx
            have Hnr := Lib.hid hnr
            clear hask hMx hrx hsx hqx hnr hchk hstt hmap hsam kS hbx
            go_upto_region 21 with (go_at_call 18; refine hask2.mono ?_; rintro e w12 ⟨e2, k2, i2, r2, p2, t2, l2, o2, f2, c2, n2, oa3, nn3, oc3, T2, B2, rfl, hTL, hTe, hM12, hT12⟩; have hr12 := (hT12.away Hnr.out (lt_of_block Hrx.out)).2.trans Hrx.out; have rf12 := frozen_blk hr12; have z0 := cell_blk hr12 0; have z1 := cell_blk hr12 1; have z2 := cell_blk hr12 2; have z3 := cell_blk hr12 3; have z4 := cell_blk hr12 4; have z5 := cell_blk hr12 5; have z6 := cell_blk hr12 6; have z7 := cell_blk hr12 7; have z8 := cell_blk hr12 8; have z9 := cell_blk hr12 9; have z10 := cell_blk hr12 10; simp at z0 z1 z2 z3 z4 z5 z6 z7 z8 z9 z10; have HTL := Lib.hid hTL; have HTe := Lib.hid hTe; have HM12 := Lib.hid hM12; have HT12 := Lib.hid hT12; have Hr12 := Lib.hid hr12; clear hTL hTe hM12 hT12 hr12 hask2)
            generalize hWb : World.setCell _ ⟨w10.heap.size, 10, none⟩ _ = wb
            have hcb : Chg [w10.heap.size] w12 wb := by rw [← hWb]; with_reducible exact chg11 _ _ _ _ _ _ _ _ _ _ _
            have rb : wb.heap[w10.heap.size]? = some (.cells (respL k2 i2 r2 p2 (.slice oa3 nn3 oc3) t2 l2 o2 f2 c2 n2) 50 (0, 0)) := by rw [← hWb]; with_reducible exact set11 Hr12.out _ _ _ _ _ _ _ _ _ _ _
            clear hWb rf12 z0 z1 z2 z3 z4 z5 z6 z7 z8 z9 z10 q0 q1 q2 q3 q4 q5 q6 q7 q8 q9 q10
            have hnr2 := (HT12.out.away Hnr.out (lt_of_block Hrx.out)).1
            have hns2 := HT12.out.away Haw.out (lt_of_block Hsx.out)
            have hzgr : W1.heap.size ≤ w10.heap.size := Nat.le_of_lt (Nat.lt_of_le_of_lt HG9.out Hgs.out)
            have hMb : Mine W1 wb mp B2 T2 (n + 2) := HM12.out.chg hcb (fun g hg => by rw [List.mem_singleton.1 hg]; exact ⟨hnr2, hzgr⟩)
            have hne1 : w8.heap.size ≠ w10.heap.size := Nat.ne_of_lt Hgs.out
            have sb : wb.heap[w8.heap.size]? = some (.cells #[.int .i64 T.cnt.t, .int .i64 T.cnt.l, .int .i64 T.cnt.o, .int .i64 T.cnt.f, .int .i64 (T.L.length : Int), .int .i64 T.now] 46 (0, 0)) := (hcb.block _ (Nat.lt_of_lt_of_le (lt_of_block Hsx.out) HT12.out.chg.size) (by simpa using hne1)).trans (hns2.2.trans Hsx.out)
            have qb : wb.heap[W.heap.size + 1]? = some (.cells #[.int .i64 qk, .int .i64 qi, .int .i64 qe, .slice qa cells.length qc, .int .i64 fv, .string fk, .int .i64 fs, .int .i64 tv, .string tk, .int .i64 ts, .int .i64 lim] 30 (0, 0)) := (hMb.below.block _ (by have := Z1.out; omega)).trans R1.out
            have hob : ∀ b off, oa = some ⟨b, off, none⟩ → b < w8.heap.size ∧ B1.lab b = .no := HOB.out
            have hsb : Sl 7 rowL wb oa T.L := by
              refine HSx.out.keep (Nat.le_trans HT12.out.chg.size hcb.size) fun b off e hlt => ?_
              refine (hcb.block b (Nat.lt_of_lt_of_le hlt HT12.out.chg.size) ?_).trans (HT12.out.away (hob b off e).2 hlt).2
              have := (hob b off e).1
              have := Hgs.out
              rw [List.mem_singleton]
              omega
            have hob2 : ∀ b off, oa = some ⟨b, off, none⟩ → b < w8.heap.size ∧ B2.lab b = .no := fun b off e => ⟨(hob b off e).1, (HT12.out.away (hob b off e).2 (by have h1 := (hob b off e).1; have h2 := lt_of_block Hsx.out; omega)).1⟩
            have kT : ∀ W', Below wb.heap.size wb W' → RefS wb (W.heap.size + 1) w10.heap.size w8.heap.size (.cells #[.int .i64 qk, .int .i64 qi, .int .i64 qe, .slice qa cells.length qc, .int .i64 fv, .string fk, .int .i64 fs, .int .i64 tv, .string tk, .int .i64 ts, .int .i64 lim] 30 (0, 0)) (.cells (respL k2 i2 r2 p2 (.slice oa3 nn3 oc3) t2 l2 o2 f2 c2 n2) 50 (0, 0)) (.cells #[.int .i64 T.cnt.t, .int .i64 T.cnt.l, .int .i64 T.cnt.o, .int .i64 T.cnt.f, .int .i64 (T.L.length : Int), .int .i64 T.now] 46 (0, 0)) W' := fun W' h => RefS.of qb rb sb W' h
            have hsam : ∀ (od : Option Addr) (cd : Nat) (W' : World), Sl 7 rowL W' od T.L → Below wb.heap.size wb W' → Calls Tryz.prog 20 #[.slice od T.L.length cd, .slice oa T.L.length oc] W' fun e w' => e = .returned (.bool true) ∧ Below W'.heap.size W' w' := fun od cd W' h1 h2 => by
              have := sameRows_any od cd T.L oa oc T.L W' h1 (hsb.below h2) (by have := HTl.out; omega)
              simpa using this
            have HMb := Lib.hid hMb
            have HSb := Lib.hid hsb
            have Hsb := Lib.hid sb
            have HOb := Lib.hid hob2
            have Hns := Lib.hid hns2.1
            clear hcb rb hnr2 hns2 hMb sb qb hob hsb hob2
            go_cut [146] from 127 to 146 (fun s wx => s = .bool false ∧ Below wb.heap.size wb wx)
            case first =>
              have k0 := kT _ (Below.refl _ _).drew
              have Hwb0 := Lib.hid (Below.refl wb.heap.size wb).drew
              by_cases he2 : e2 = 0
              · subst he2
                by_cases hk2 : k2 = 5
                · subst hk2
                  have hTT := HTe.out rfl rfl
                  subst hTT
                  have hstt : ∀ W', Below wb.heap.size wb W' → Calls Tryz.prog 16 #[.pointer (some ⟨mp, 0, none⟩)] W' fun e w' => e = .returned (statV T2.cnt.t T2.cnt.l T2.cnt.o T2.cnt.f T2.L.length T2.now) ∧ Below W'.heap.size W' w' := fun W' h => (HMb.out.keep h).stats
                  have hmap : ∀ W', Below wb.heap.size wb W' → Calls Tryz.prog 15 #[.pointer (some ⟨mp, 0, none⟩)] W' fun e w' => ∃ v, e = .returned v ∧ Own 93 7 rowL W'.heap.size w' v T2.L ∧ Below W'.heap.size W' w' := fun W' h => (HMb.out.keep h).map (by omega)
                  refine wp_region_held_drew (S := fun Wz => RefS wb (W.heap.size + 1) w10.heap.size w8.heap.size (.cells #[.int .i64 qk, .int .i64 qi, .int .i64 qe, .slice qa cells.length qc, .int .i64 fv, .string fk, .int .i64 fs, .int .i64 tv, .string tk, .int .i64 ts, .int .i64 lim] 30 (0, 0)) (.cells (respL 5 i2 r2 p2 (.slice oa3 nn3 oc3) t2 l2 o2 f2 c2 n2) 50 (0, 0)) (.cells #[.int .i64 T2.cnt.t, .int .i64 T2.cnt.l, .int .i64 T2.cnt.o, .int .i64 T2.cnt.f, .int .i64 (T2.L.length : Int), .int .i64 T2.now] 46 (0, 0)) Wz) (by kernel_rfl) k0 (fun hHeld => ?_)
                  refine wpAnyH_takeD (i := 0) (oi := _) (d := 127) (v := ?ve0) rfl (by kernel_rfl) (by kernel_rfl) (by kernel_rfl) (by kernel_rfl) (fun _ _ _ h => h) (Or.inl ⟨by kernel_rfl, ?ye0⟩) (by assumption) ?re0
                  case ye0 =>
                    intro w' hSw
                    try dsimp only at hSw
                    go_simp
                    try with_reducible rfl
                  try simp only [Act.put, List.setIfInBounds_toArray, List.set_cons_zero, List.set_cons_succ]
                  refine wpAnyH_takeD (i := 1) (oi := _) (d := 128) (v := ?ve1) rfl (by kernel_rfl) (by kernel_rfl) (by kernel_rfl) (by kernel_rfl) (fun _ _ _ h => h) (Or.inl ⟨by kernel_rfl, ?ye1⟩) (by assumption) ?re1
                  case ye1 =>
                    intro w' hSw
                    try dsimp only at hSw
                    go_simp
                    try with_reducible rfl
                  try simp only [Act.put, List.setIfInBounds_toArray, List.set_cons_zero, List.set_cons_succ]
                  refine wpAnyH_takeD (i := 2) (oi := _) (d := 129) (v := ?ve2) rfl (by kernel_rfl) (by kernel_rfl) (by kernel_rfl) (by kernel_rfl) (fun _ _ _ h => h) (Or.inl ⟨by kernel_rfl, ?ye2⟩) (by assumption) ?re2
                  case ye2 =>
                    intro w' hSw
                    try dsimp only at hSw
                    go_simp
                    try with_reducible rfl
                  try simp only [Act.put, List.setIfInBounds_toArray, List.set_cons_zero, List.set_cons_succ]
                  refine wpAnyH_takeD (i := 3) (oi := _) (d := 130) (v := ?ve3) rfl (by kernel_rfl) (by kernel_rfl) (by kernel_rfl) (by kernel_rfl) (fun _ _ _ h => h) (Or.inl ⟨by kernel_rfl, ?ye3⟩) (by assumption) ?re3
                  case ye3 =>
                    intro w' hSw
                    try dsimp only at hSw
                    go_simp
                    try with_reducible rfl
                  try simp only [Act.put, List.setIfInBounds_toArray, List.set_cons_zero, List.set_cons_succ]
                  refine wpAnyH_takeD (i := 4) (oi := _) (d := 131) (v := ?ve4) rfl (by kernel_rfl) (by kernel_rfl) (by kernel_rfl) (by kernel_rfl) (fun _ _ _ h => h) (Or.inl ⟨by kernel_rfl, ?ye4⟩) (by assumption) ?re4
                  case ye4 =>
                    intro w' hSw
                    obtain ⟨sB, sQ, sR, sS⟩ := hSw
                    have x0 := cell_blk sR 0
                    simp at x0
                    go_simp
                    try with_reducible rfl
                  try simp only [Act.put, List.setIfInBounds_toArray, List.set_cons_zero, List.set_cons_succ]
                  refine wpAnyH_takeD (i := 5) (oi := _) (d := 132) (v := ?ve5) rfl (by kernel_rfl) (by kernel_rfl) (by kernel_rfl) (by kernel_rfl) (fun _ _ _ h => h) (Or.inl ⟨by kernel_rfl, ?ye5⟩) (by assumption) ?re5
                  case ye5 =>
                    intro w' hSw
                    try dsimp only at hSw
                    go_simp
                    try with_reducible rfl
                  try simp only [Act.put, List.setIfInBounds_toArray, List.set_cons_zero, List.set_cons_succ]
                  refine wpAnyH_takeD (i := 6) (oi := _) (d := 133) (v := ?ve6) rfl (by kernel_rfl) (by kernel_rfl) (by kernel_rfl) (by kernel_rfl) (fun _ _ _ h => h) (Or.inl ⟨by kernel_rfl, ?ye6⟩) (by assumption) ?re6
                  case ye6 =>
                    intro w' hSw
                    try dsimp only at hSw
                    go_simp
                    try with_reducible rfl
                  try simp only [Act.put, List.setIfInBounds_toArray, List.set_cons_zero, List.set_cons_succ]
                  refine wpAnyH_takeD (i := 7) (oi := _) (d := 134) (v := ?ve7) rfl (by kernel_rfl) (by kernel_rfl) (by kernel_rfl) (by kernel_rfl) (fun _ _ _ h => h) (Or.inl ⟨by kernel_rfl, ?ye7⟩) (by assumption) ?re7
                  case ye7 =>
                    intro w' hSw
                    try dsimp only at hSw
                    go_simp
                    try with_reducible rfl
                  try simp only [Act.put, List.setIfInBounds_toArray, List.set_cons_zero, List.set_cons_succ]
                  refine wpAnyH_takeD (i := 8) (oi := _) (d := 135) (v := ?ve8) rfl (by kernel_rfl) (by kernel_rfl) (by kernel_rfl) (by kernel_rfl) (fun _ _ _ h => h) (Or.inl ⟨by kernel_rfl, ?ye8⟩) (by assumption) ?re8
                  case ye8 =>
                    intro w' hSw
                    try dsimp only at hSw
                    go_simp
                    try with_reducible rfl
                  try simp only [Act.put, List.setIfInBounds_toArray, List.set_cons_zero, List.set_cons_succ]
                  refine wpAnyH_takeD (i := 10) (oi := _) (d := 137) (v := ?ve10) rfl (by kernel_rfl) (by kernel_rfl) (by kernel_rfl) (by kernel_rfl) (fun _ _ _ h => h) (Or.inl ⟨by kernel_rfl, ?ye10⟩) (by assumption) ?re10
                  case ye10 =>
                    intro w' hSw
                    obtain ⟨sB, sQ, sR, sS⟩ := hSw
                    have x0 := cell_blk sS 0
                    have x1 := cell_blk sS 1
                    have x2 := cell_blk sS 2
                    have x3 := cell_blk sS 3
                    have x4 := cell_blk sS 4
                    have x5 := cell_blk sS 5
                    simp at x0 x1 x2 x3 x4 x5
                    go_simp
                    try with_reducible rfl
                  try simp only [Act.put, List.setIfInBounds_toArray, List.set_cons_zero, List.set_cons_succ]
                  refine wpAnyH_ready (rs := [9]) (by kernel_rfl) (by simp) ?_
                  refine AllReadyH.cons (o := _) rfl (fun K hK => ?_) AllReadyH.nil
                  go_simp
                  go_at_call 16
                  refine (hstt _ Hwb0.out).mono ?_
                  rintro e wcc ⟨rfl, hbwcc⟩
                  have hb0 : Below wb.heap.size wb wcc := Hwb0.out.trans (hbwcc.mono Hwb0.out.size)
                  have kwcc := kT wcc hb0
                  have Hwcc := Lib.hid hb0
                  clear hbwcc hb0
                  refine hK.out _ _ kwcc (fun _ => ?_)
                  clear hK K
                  try simp only [Act.put, List.setIfInBounds_toArray, List.set_cons_zero, List.set_cons_succ]
                  refine wpAnyH_takeD (i := 11) (oi := _) (d := 138) (v := ?ve11) rfl (by kernel_rfl) (by kernel_rfl) (by kernel_rfl) (by kernel_rfl) (fun _ _ _ h => h) (Or.inl ⟨by kernel_rfl, ?ye11⟩) (by assumption) ?re11
                  case ye11 =>
                    intro w' hSw
                    try dsimp only at hSw
                    go_simp
                    try with_reducible rfl
                  try simp only [Act.put, List.setIfInBounds_toArray, List.set_cons_zero, List.set_cons_succ]
                  refine wpAnyH_takeD (i := 12) (oi := _) (d := 139) (v := ?ve12) rfl (by kernel_rfl) (by kernel_rfl) (by kernel_rfl) (by kernel_rfl) (fun _ _ _ h => h) (Or.inl ⟨by kernel_rfl, ?ye12⟩) (by assumption) ?re12
                  case ye12 =>
                    intro w' hSw
                    try dsimp only at hSw
                    go_simp
                    try with_reducible rfl
                  try simp only [Act.put, List.setIfInBounds_toArray, List.set_cons_zero, List.set_cons_succ]
                  refine wpAnyH_takeD (i := 13) (oi := _) (d := 140) (v := ?ve13) rfl (by kernel_rfl) (by kernel_rfl) (by kernel_rfl) (by kernel_rfl) (fun _ _ _ h => h) (Or.inl ⟨by kernel_rfl, ?ye13⟩) (by assumption) ?re13
                  case ye13 =>
                    intro w' hSw
                    try dsimp only at hSw
                    go_simp
                    try with_reducible rfl
                  try simp only [Act.put, List.setIfInBounds_toArray, List.set_cons_zero, List.set_cons_succ]
                  refine wpAnyH_takeD (i := 15) (oi := _) (d := 142) (v := ?ve15) rfl (by kernel_rfl) (by kernel_rfl) (by kernel_rfl) (by kernel_rfl) (fun _ _ _ h => h) (Or.inl ⟨by kernel_rfl, ?ye15⟩) (by assumption) ?re15
                  case ye15 =>
                    intro w' hSw
                    try dsimp only at hSw
                    go_simp
                    try with_reducible rfl
                  try simp only [Act.put, List.setIfInBounds_toArray, List.set_cons_zero, List.set_cons_succ]
                  refine wpAnyH_ready (rs := [14]) (by kernel_rfl) (by simp) ?_
                  refine AllReadyH.cons (o := _) rfl (fun K hK => ?_) AllReadyH.nil
                  go_simp
                  go_at_call 15
                  refine (hmap _ Hwcc.out).mono ?_
                  rintro e wd ⟨vd, rfl, hod, hbwd⟩
                  obtain ⟨od, cd, rfl, _⟩ := hod.sl fun _ => rfl
                  have hsm := hsam od cd wd (hod.sl0 (fun _ => rfl)) (Hwcc.out.trans (hbwd.mono Hwcc.out.size))
                  clear hod
                  have hb0 : Below wb.heap.size wb wd := Hwcc.out.trans (hbwd.mono Hwcc.out.size)
                  have kwd := kT wd hb0
                  have Hwd := Lib.hid hb0
                  clear hbwd hb0
                  refine hK.out _ _ kwd (fun _ => ?_)
                  clear hK K
                  try simp only [Act.put, List.setIfInBounds_toArray, List.set_cons_zero, List.set_cons_succ]
                  refine wpAnyH_ready (rs := [16]) (by kernel_rfl) (by simp) ?_
                  refine AllReadyH.cons (o := _) rfl (fun K hK => ?_) AllReadyH.nil
                  go_simp
                  go_at_call 20
                  refine (hsm).mono ?_
                  rintro e we ⟨rfl, hbwe⟩
                  have hb0 : Below wb.heap.size wb we := Hwd.out.trans (hbwe.mono Hwd.out.size)
                  have kwe := kT we hb0
                  have Hwe := Lib.hid hb0
                  clear hbwe hb0
                  refine hK.out _ _ kwe (fun _ => ?_)
                  clear hK K
                  try simp only [Act.put, List.setIfInBounds_toArray, List.set_cons_zero, List.set_cons_succ]
                  refine wpAnyH_takeD (i := 17) (oi := _) (d := 144) (v := ?ve17) rfl (by kernel_rfl) (by kernel_rfl) (by kernel_rfl) (by kernel_rfl) (fun _ _ _ h => h) (Or.inl ⟨by kernel_rfl, ?ye17⟩) (by assumption) ?re17
                  case ye17 =>
                    intro w' hSw
                    try dsimp only at hSw
                    go_simp
                    try with_reducible rfl
                  try simp only [Act.put, List.setIfInBounds_toArray, List.set_cons_zero, List.set_cons_succ]
                  refine wpAnyH_takeD (i := 18) (oi := _) (d := 145) (v := ?ve18) rfl (by kernel_rfl) (by kernel_rfl) (by kernel_rfl) (by kernel_rfl) (fun _ _ _ h => h) (Or.inl ⟨by kernel_rfl, ?ye18⟩) (by assumption) ?re18
                  case ye18 =>
                    intro w' hSw
                    try dsimp only at hSw
                    go_simp
                    try with_reducible rfl
                  try simp only [Act.put, List.setIfInBounds_toArray, List.set_cons_zero, List.set_cons_succ]
                  refine wpAnyH_takeD (i := 19) (oi := _) (d := 146) (v := ?ve19) rfl (by kernel_rfl) (by kernel_rfl) (by kernel_rfl) (by kernel_rfl) (fun _ _ _ h => h) (Or.inl ⟨by kernel_rfl, ?ye19⟩) (by assumption) ?re19
                  case ye19 =>
                    intro w' hSw
                    try dsimp only at hSw
                    go_simp
                    try with_reducible rfl
                  try simp only [Act.put, List.setIfInBounds_toArray, List.set_cons_zero, List.set_cons_succ]
                  refine wpAnyH_done (by kernel_rfl) ?_ _
                  go_wp2_with fail
                  go_meet
                  exact ⟨rfl, Hwe.out⟩
                · have hk5 : (k2 == 5) = false := by simpa using hk2
                  refine wp_region_held_drew (S := fun Wz => RefS wb (W.heap.size + 1) w10.heap.size w8.heap.size (.cells #[.int .i64 qk, .int .i64 qi, .int .i64 qe, .slice qa cells.length qc, .int .i64 fv, .string fk, .int .i64 fs, .int .i64 tv, .string tk, .int .i64 ts, .int .i64 lim] 30 (0, 0)) (.cells (respL k2 i2 r2 p2 (.slice oa3 nn3 oc3) t2 l2 o2 f2 c2 n2) 50 (0, 0)) (.cells #[.int .i64 T.cnt.t, .int .i64 T.cnt.l, .int .i64 T.cnt.o, .int .i64 T.cnt.f, .int .i64 (T.L.length : Int), .int .i64 T.now] 46 (0, 0)) Wz) (by kernel_rfl) k0 (fun hHeld => ?_)
                  refine wpAnyH_takeD (i := 0) (oi := _) (d := 127) (v := ?vf0) rfl (by kernel_rfl) (by kernel_rfl) (by kernel_rfl) (by kernel_rfl) (fun _ _ _ h => h) (Or.inl ⟨by kernel_rfl, ?yf0⟩) (by assumption) ?rf0
                  case yf0 =>
                    intro w' hSw
                    try dsimp only at hSw
                    go_simp
                    try with_reducible rfl
                  try simp only [Act.put, List.setIfInBounds_toArray, List.set_cons_zero, List.set_cons_succ]
                  refine wpAnyH_takeD (i := 1) (oi := _) (d := 128) (v := ?vf1) rfl (by kernel_rfl) (by kernel_rfl) (by kernel_rfl) (by kernel_rfl) (fun _ _ _ h => h) (Or.inl ⟨by kernel_rfl, ?yf1⟩) (by assumption) ?rf1
                  case yf1 =>
                    intro w' hSw
                    try dsimp only at hSw
                    go_simp
                    try with_reducible rfl
                  try simp only [Act.put, List.setIfInBounds_toArray, List.set_cons_zero, List.set_cons_succ]
                  refine wpAnyH_takeD (i := 2) (oi := _) (d := 129) (v := ?vf2) rfl (by kernel_rfl) (by kernel_rfl) (by kernel_rfl) (by kernel_rfl) (fun _ _ _ h => h) (Or.inl ⟨by kernel_rfl, ?yf2⟩) (by assumption) ?rf2
                  case yf2 =>
                    intro w' hSw
                    try dsimp only at hSw
                    go_simp
                    try with_reducible rfl
                  try simp only [Act.put, List.setIfInBounds_toArray, List.set_cons_zero, List.set_cons_succ]
                  refine wpAnyH_takeD (i := 3) (oi := _) (d := 130) (v := ?vf3) rfl (by kernel_rfl) (by kernel_rfl) (by kernel_rfl) (by kernel_rfl) (fun _ _ _ h => h) (Or.inl ⟨by kernel_rfl, ?yf3⟩) (by assumption) ?rf3
                  case yf3 =>
                    intro w' hSw
                    try dsimp only at hSw
                    go_simp
                    try with_reducible rfl
                  try simp only [Act.put, List.setIfInBounds_toArray, List.set_cons_zero, List.set_cons_succ]
                  refine wpAnyH_takeD (i := 4) (oi := _) (d := 131) (v := ?vf4) rfl (by kernel_rfl) (by kernel_rfl) (by kernel_rfl) (by kernel_rfl) (fun _ _ _ h => h) (Or.inl ⟨by kernel_rfl, ?yf4⟩) (by assumption) ?rf4
                  case yf4 =>
                    intro w' hSw
                    obtain ⟨sB, sQ, sR, sS⟩ := hSw
                    have x0 := cell_blk sR 0
                    simp at x0
                    go_simp
                    try with_reducible rfl
                  try simp only [Act.put, List.setIfInBounds_toArray, List.set_cons_zero, List.set_cons_succ]
                  refine wpAnyH_takeD (i := 5) (oi := _) (d := 132) (v := ?vf5) rfl (by kernel_rfl) (by kernel_rfl) (by kernel_rfl) (by kernel_rfl) (fun _ _ _ h => h) (Or.inl ⟨by kernel_rfl, ?yf5⟩) (by assumption) ?rf5
                  case yf5 =>
                    intro w' hSw
                    try dsimp only at hSw
                    go_simp
                    try with_reducible rfl
                  try simp only [Act.put, List.setIfInBounds_toArray, List.set_cons_zero, List.set_cons_succ]
                  refine wpAnyH_takeD (i := 6) (oi := _) (d := 133) (v := ?vf6) rfl (by kernel_rfl) (by kernel_rfl) (by kernel_rfl) (by kernel_rfl) (fun _ _ _ h => h) (Or.inl ⟨by kernel_rfl, ?yf6⟩) (by assumption) ?rf6
                  case yf6 =>
                    intro w' hSw
                    try dsimp only at hSw
                    go_simp
                    try with_reducible rfl
                  try simp only [Act.put, List.setIfInBounds_toArray, List.set_cons_zero, List.set_cons_succ]
                  refine wpAnyH_takeD (i := 7) (oi := _) (d := 134) (v := ?vf7) rfl (by kernel_rfl) (by kernel_rfl) (by kernel_rfl) (by kernel_rfl) (fun _ _ _ h => h) (Or.inl ⟨by kernel_rfl, ?yf7⟩) (by assumption) ?rf7
                  case yf7 =>
                    intro w' hSw
                    try dsimp only at hSw
                    go_simp
                    try with_reducible rfl
                  try simp only [Act.put, List.setIfInBounds_toArray, List.set_cons_zero, List.set_cons_succ]
                  refine wpAnyH_takeD (i := 8) (oi := _) (d := 135) (v := undef) rfl (by kernel_rfl) (by kernel_rfl) (by kernel_rfl) (by kernel_rfl) (fun _ _ _ h => h) (Or.inr ⟨by kernel_rfl, rfl⟩) (by assumption) ?_
                  try simp only [Act.put, List.setIfInBounds_toArray, List.set_cons_zero, List.set_cons_succ]
                  refine wpAnyH_takeD (i := 9) (oi := _) (d := 136) (v := undef) rfl (by kernel_rfl) (by kernel_rfl) (by kernel_rfl) (by kernel_rfl) (fun _ _ _ h => h) (Or.inr ⟨by kernel_rfl, rfl⟩) (by assumption) ?_
                  try simp only [Act.put, List.setIfInBounds_toArray, List.set_cons_zero, List.set_cons_succ]
                  refine wpAnyH_takeD (i := 10) (oi := _) (d := 137) (v := undef) rfl (by kernel_rfl) (by kernel_rfl) (by kernel_rfl) (by kernel_rfl) (fun _ _ _ h => h) (Or.inr ⟨by kernel_rfl, rfl⟩) (by assumption) ?_
                  try simp only [Act.put, List.setIfInBounds_toArray, List.set_cons_zero, List.set_cons_succ]
                  refine wpAnyH_takeD (i := 11) (oi := _) (d := 138) (v := undef) rfl (by kernel_rfl) (by kernel_rfl) (by kernel_rfl) (by kernel_rfl) (fun _ _ _ h => h) (Or.inr ⟨by kernel_rfl, rfl⟩) (by assumption) ?_
                  try simp only [Act.put, List.setIfInBounds_toArray, List.set_cons_zero, List.set_cons_succ]
                  refine wpAnyH_takeD (i := 12) (oi := _) (d := 139) (v := undef) rfl (by kernel_rfl) (by kernel_rfl) (by kernel_rfl) (by kernel_rfl) (fun _ _ _ h => h) (Or.inr ⟨by kernel_rfl, rfl⟩) (by assumption) ?_
                  try simp only [Act.put, List.setIfInBounds_toArray, List.set_cons_zero, List.set_cons_succ]
                  refine wpAnyH_takeD (i := 13) (oi := _) (d := 140) (v := undef) rfl (by kernel_rfl) (by kernel_rfl) (by kernel_rfl) (by kernel_rfl) (fun _ _ _ h => h) (Or.inr ⟨by kernel_rfl, rfl⟩) (by assumption) ?_
                  try simp only [Act.put, List.setIfInBounds_toArray, List.set_cons_zero, List.set_cons_succ]
                  refine wpAnyH_takeD (i := 14) (oi := _) (d := 141) (v := undef) rfl (by kernel_rfl) (by kernel_rfl) (by kernel_rfl) (by kernel_rfl) (fun _ _ _ h => h) (Or.inr ⟨by kernel_rfl, rfl⟩) (by assumption) ?_
                  try simp only [Act.put, List.setIfInBounds_toArray, List.set_cons_zero, List.set_cons_succ]
                  refine wpAnyH_takeD (i := 15) (oi := _) (d := 142) (v := undef) rfl (by kernel_rfl) (by kernel_rfl) (by kernel_rfl) (by kernel_rfl) (fun _ _ _ h => h) (Or.inr ⟨by kernel_rfl, rfl⟩) (by assumption) ?_
                  try simp only [Act.put, List.setIfInBounds_toArray, List.set_cons_zero, List.set_cons_succ]
                  refine wpAnyH_takeD (i := 16) (oi := _) (d := 143) (v := undef) rfl (by kernel_rfl) (by kernel_rfl) (by kernel_rfl) (by kernel_rfl) (fun _ _ _ h => h) (Or.inr ⟨by kernel_rfl, rfl⟩) (by assumption) ?_
                  try simp only [Act.put, List.setIfInBounds_toArray, List.set_cons_zero, List.set_cons_succ]
                  refine wpAnyH_takeD (i := 17) (oi := _) (d := 144) (v := undef) rfl (by kernel_rfl) (by kernel_rfl) (by kernel_rfl) (by kernel_rfl) (fun _ _ _ h => h) (Or.inr ⟨by kernel_rfl, rfl⟩) (by assumption) ?_
                  try simp only [Act.put, List.setIfInBounds_toArray, List.set_cons_zero, List.set_cons_succ]
                  refine wpAnyH_takeD (i := 18) (oi := _) (d := 145) (v := undef) rfl (by kernel_rfl) (by kernel_rfl) (by kernel_rfl) (by kernel_rfl) (fun _ _ _ h => h) (Or.inr ⟨by kernel_rfl, rfl⟩) (by assumption) ?_
                  try simp only [Act.put, List.setIfInBounds_toArray, List.set_cons_zero, List.set_cons_succ]
                  refine wpAnyH_takeD (i := 19) (oi := _) (d := 146) (v := ?vf19) rfl (by kernel_rfl) (by kernel_rfl) (by kernel_rfl) (by kernel_rfl) (fun _ _ _ h => h) (Or.inl ⟨by kernel_rfl, ?yf19⟩) (by assumption) ?rf19
                  case yf19 =>
                    intro w' hSw
                    try dsimp only at hSw
                    go_simp
                    try with_reducible rfl
                  try simp only [Act.put, List.setIfInBounds_toArray, List.set_cons_zero, List.set_cons_succ]
                  refine wpAnyH_done (by kernel_rfl) ?_ _
                  go_wp2_with fail
                  go_meet
                  exact ⟨rfl, (Below.refl _ _).drew⟩
              · have he0 : (e2 == 0) = false := by simpa using he2
                refine wp_region_held_drew (S := fun Wz => RefS wb (W.heap.size + 1) w10.heap.size w8.heap.size (.cells #[.int .i64 qk, .int .i64 qi, .int .i64 qe, .slice qa cells.length qc, .int .i64 fv, .string fk, .int .i64 fs, .int .i64 tv, .string tk, .int .i64 ts, .int .i64 lim] 30 (0, 0)) (.cells (respL k2 i2 r2 p2 (.slice oa3 nn3 oc3) t2 l2 o2 f2 c2 n2) 50 (0, 0)) (.cells #[.int .i64 T.cnt.t, .int .i64 T.cnt.l, .int .i64 T.cnt.o, .int .i64 T.cnt.f, .int .i64 (T.L.length : Int), .int .i64 T.now] 46 (0, 0)) Wz) (by kernel_rfl) k0 (fun hHeld => ?_)
                refine wpAnyH_takeD (i := 0) (oi := _) (d := 127) (v := ?vd0) rfl (by kernel_rfl) (by kernel_rfl) (by kernel_rfl) (by kernel_rfl) (fun _ _ _ h => h) (Or.inl ⟨by kernel_rfl, ?yd0⟩) (by assumption) ?rd0
                case yd0 =>
                  intro w' hSw
                  try dsimp only at hSw
                  go_simp
                  try with_reducible rfl
                try simp only [Act.put, List.setIfInBounds_toArray, List.set_cons_zero, List.set_cons_succ]
                refine wpAnyH_takeD (i := 1) (oi := _) (d := 128) (v := ?vd1) rfl (by kernel_rfl) (by kernel_rfl) (by kernel_rfl) (by kernel_rfl) (fun _ _ _ h => h) (Or.inl ⟨by kernel_rfl, ?yd1⟩) (by assumption) ?rd1
                case yd1 =>
                  intro w' hSw
                  try dsimp only at hSw
                  go_simp
                  try with_reducible rfl
                try simp only [Act.put, List.setIfInBounds_toArray, List.set_cons_zero, List.set_cons_succ]
                refine wpAnyH_takeD (i := 2) (oi := _) (d := 129) (v := ?vd2) rfl (by kernel_rfl) (by kernel_rfl) (by kernel_rfl) (by kernel_rfl) (fun _ _ _ h => h) (Or.inl ⟨by kernel_rfl, ?yd2⟩) (by assumption) ?rd2
                case yd2 =>
                  intro w' hSw
                  try dsimp only at hSw
                  go_simp
                  try with_reducible rfl
                try simp only [Act.put, List.setIfInBounds_toArray, List.set_cons_zero, List.set_cons_succ]
                refine wpAnyH_takeD (i := 3) (oi := _) (d := 130) (v := undef) rfl (by kernel_rfl) (by kernel_rfl) (by kernel_rfl) (by kernel_rfl) (fun _ _ _ h => h) (Or.inr ⟨by kernel_rfl, rfl⟩) (by assumption) ?_
                try simp only [Act.put, List.setIfInBounds_toArray, List.set_cons_zero, List.set_cons_succ]
                refine wpAnyH_takeD (i := 4) (oi := _) (d := 131) (v := undef) rfl (by kernel_rfl) (by kernel_rfl) (by kernel_rfl) (by kernel_rfl) (fun _ _ _ h => h) (Or.inr ⟨by kernel_rfl, rfl⟩) (by assumption) ?_
                try simp only [Act.put, List.setIfInBounds_toArray, List.set_cons_zero, List.set_cons_succ]
                refine wpAnyH_takeD (i := 5) (oi := _) (d := 132) (v := undef) rfl (by kernel_rfl) (by kernel_rfl) (by kernel_rfl) (by kernel_rfl) (fun _ _ _ h => h) (Or.inr ⟨by kernel_rfl, rfl⟩) (by assumption) ?_
                try simp only [Act.put, List.setIfInBounds_toArray, List.set_cons_zero, List.set_cons_succ]
                refine wpAnyH_takeD (i := 6) (oi := _) (d := 133) (v := ?vd6) rfl (by kernel_rfl) (by kernel_rfl) (by kernel_rfl) (by kernel_rfl) (fun _ _ _ h => h) (Or.inl ⟨by kernel_rfl, ?yd6⟩) (by assumption) ?rd6
                case yd6 =>
                  intro w' hSw
                  try dsimp only at hSw
                  go_simp
                  try with_reducible rfl
                try simp only [Act.put, List.setIfInBounds_toArray, List.set_cons_zero, List.set_cons_succ]
                refine wpAnyH_takeD (i := 7) (oi := _) (d := 134) (v := ?vd7) rfl (by kernel_rfl) (by kernel_rfl) (by kernel_rfl) (by kernel_rfl) (fun _ _ _ h => h) (Or.inl ⟨by kernel_rfl, ?yd7⟩) (by assumption) ?rd7
                case yd7 =>
                  intro w' hSw
                  try dsimp only at hSw
                  go_simp
                  try with_reducible rfl
                try simp only [Act.put, List.setIfInBounds_toArray, List.set_cons_zero, List.set_cons_succ]
                refine wpAnyH_takeD (i := 8) (oi := _) (d := 135) (v := undef) rfl (by kernel_rfl) (by kernel_rfl) (by kernel_rfl) (by kernel_rfl) (fun _ _ _ h => h) (Or.inr ⟨by kernel_rfl, rfl⟩) (by assumption) ?_
                try simp only [Act.put, List.setIfInBounds_toArray, List.set_cons_zero, List.set_cons_succ]
                refine wpAnyH_takeD (i := 9) (oi := _) (d := 136) (v := undef) rfl (by kernel_rfl) (by kernel_rfl) (by kernel_rfl) (by kernel_rfl) (fun _ _ _ h => h) (Or.inr ⟨by kernel_rfl, rfl⟩) (by assumption) ?_
                try simp only [Act.put, List.setIfInBounds_toArray, List.set_cons_zero, List.set_cons_succ]
                refine wpAnyH_takeD (i := 10) (oi := _) (d := 137) (v := undef) rfl (by kernel_rfl) (by kernel_rfl) (by kernel_rfl) (by kernel_rfl) (fun _ _ _ h => h) (Or.inr ⟨by kernel_rfl, rfl⟩) (by assumption) ?_
                try simp only [Act.put, List.setIfInBounds_toArray, List.set_cons_zero, List.set_cons_succ]
                refine wpAnyH_takeD (i := 11) (oi := _) (d := 138) (v := undef) rfl (by kernel_rfl) (by kernel_rfl) (by kernel_rfl) (by kernel_rfl) (fun _ _ _ h => h) (Or.inr ⟨by kernel_rfl, rfl⟩) (by assumption) ?_
                try simp only [Act.put, List.setIfInBounds_toArray, List.set_cons_zero, List.set_cons_succ]
                refine wpAnyH_takeD (i := 12) (oi := _) (d := 139) (v := undef) rfl (by kernel_rfl) (by kernel_rfl) (by kernel_rfl) (by kernel_rfl) (fun _ _ _ h => h) (Or.inr ⟨by kernel_rfl, rfl⟩) (by assumption) ?_
                try simp only [Act.put, List.setIfInBounds_toArray, List.set_cons_zero, List.set_cons_succ]
                refine wpAnyH_takeD (i := 13) (oi := _) (d := 140) (v := undef) rfl (by kernel_rfl) (by kernel_rfl) (by kernel_rfl) (by kernel_rfl) (fun _ _ _ h => h) (Or.inr ⟨by kernel_rfl, rfl⟩) (by assumption) ?_
                try simp only [Act.put, List.setIfInBounds_toArray, List.set_cons_zero, List.set_cons_succ]
                refine wpAnyH_takeD (i := 14) (oi := _) (d := 141) (v := undef) rfl (by kernel_rfl) (by kernel_rfl) (by kernel_rfl) (by kernel_rfl) (fun _ _ _ h => h) (Or.inr ⟨by kernel_rfl, rfl⟩) (by assumption) ?_
                try simp only [Act.put, List.setIfInBounds_toArray, List.set_cons_zero, List.set_cons_succ]
                refine wpAnyH_takeD (i := 15) (oi := _) (d := 142) (v := undef) rfl (by kernel_rfl) (by kernel_rfl) (by kernel_rfl) (by kernel_rfl) (fun _ _ _ h => h) (Or.inr ⟨by kernel_rfl, rfl⟩) (by assumption) ?_
                try simp only [Act.put, List.setIfInBounds_toArray, List.set_cons_zero, List.set_cons_succ]
                refine wpAnyH_takeD (i := 16) (oi := _) (d := 143) (v := undef) rfl (by kernel_rfl) (by kernel_rfl) (by kernel_rfl) (by kernel_rfl) (fun _ _ _ h => h) (Or.inr ⟨by kernel_rfl, rfl⟩) (by assumption) ?_
                try simp only [Act.put, List.setIfInBounds_toArray, List.set_cons_zero, List.set_cons_succ]
                refine wpAnyH_takeD (i := 17) (oi := _) (d := 144) (v := undef) rfl (by kernel_rfl) (by kernel_rfl) (by kernel_rfl) (by kernel_rfl) (fun _ _ _ h => h) (Or.inr ⟨by kernel_rfl, rfl⟩) (by assumption) ?_
                try simp only [Act.put, List.setIfInBounds_toArray, List.set_cons_zero, List.set_cons_succ]
                refine wpAnyH_takeD (i := 18) (oi := _) (d := 145) (v := undef) rfl (by kernel_rfl) (by kernel_rfl) (by kernel_rfl) (by kernel_rfl) (fun _ _ _ h => h) (Or.inr ⟨by kernel_rfl, rfl⟩) (by assumption) ?_
                try simp only [Act.put, List.setIfInBounds_toArray, List.set_cons_zero, List.set_cons_succ]
                refine wpAnyH_takeD (i := 19) (oi := _) (d := 146) (v := ?vd19) rfl (by kernel_rfl) (by kernel_rfl) (by kernel_rfl) (by kernel_rfl) (fun _ _ _ h => h) (Or.inl ⟨by kernel_rfl, ?yd19⟩) (by assumption) ?rd19
                case yd19 =>
                  intro w' hSw
                  try dsimp only at hSw
                  go_simp
                  try with_reducible rfl
                try simp only [Act.put, List.setIfInBounds_toArray, List.set_cons_zero, List.set_cons_succ]
                refine wpAnyH_done (by kernel_rfl) ?_ _
                go_wp2_with fail
                go_meet
                exact ⟨rfl, (Below.refl _ _).drew⟩
            case rest =>
              obtain ⟨rfl, hby⟩ := hcut
              have hMy := HMb.out.keep hby
              have hmap := hMy.map (by omega)
              rw [HTL.out] at hmap
              have HSy := Lib.hid (HSb.out.below hby)
              have Hsy := Lib.hid ((hby.block _ (lt_of_block Hsb.out)).trans Hsb.out)
              have HMy := Lib.hid hMy
              have hsame : ∀ (od : Option Addr) (cd : Nat) (W' : World), Sl 7 rowL W' od T.L → Sl 7 rowL W' oa T.L → Calls Tryz.prog 20 #[.slice od T.L.length cd, .slice oa T.L.length oc] W' fun e w' => e = .returned (.bool true) ∧ Below W'.heap.size W' w' := fun od cd W' h1 h2 => by
                have := sameRows_any od cd T.L oa oc T.L W' h1 h2 (by have := HTl.out; omega)
                simpa using this
              have Hsame := Lib.hid hsame
              clear hsam hsame hMy hby kT hneS
              go_wp2_with fail
              refine hmap.mono ?_
              rintro e w31 ⟨v31, rfl, ho31, hb31⟩
              obtain ⟨oa4, oc4, rfl, _⟩ := ho31.sl fun _ => rfl
              have HM31 := Lib.hid (HMy.out.keep hb31)
              have HS31 := Lib.hid (HSy.out.below hb31)
              have Hs31 := Lib.hid ((hb31.block _ (lt_of_block Hsy.out)).trans Hsy.out)
              have hsm3 := Hsame.out oa4 oc4 w31 (ho31.sl0 (fun _ => rfl)) HS31.out
              clear hmap ho31 hb31
              go_wp2_with fail
              refine hsm3.mono ?_
              rintro e w32 ⟨rfl, hb32⟩
              have hM32 := HM31.out.keep hb32
              have hst3 := hM32.stats
              unfold Mst.statsV at hst3
              have HM32 := Lib.hid hM32
              have HS32 := Lib.hid (HS31.out.below hb32)
              have Hs32 := Lib.hid ((hb32.block _ (lt_of_block Hs31.out)).trans Hs31.out)
              clear hsm3 hM32 hb32
              go_wp2_with fail
              refine hst3.mono ?_
              rintro e w33 ⟨rfl, hb33⟩
              have hs33 := (hb33.block _ (lt_of_block Hs32.out)).trans Hs32.out
              have f33 := frozen_blk hs33
              have a0 := cell_blk hs33 0
              have a1 := cell_blk hs33 1
              have a2 := cell_blk hs33 2
              have a3 := cell_blk hs33 3
              have a4 := cell_blk hs33 4
              have a5 := cell_blk hs33 5
              simp at a0 a1 a2 a3 a4 a5
              have Hs33 := Lib.hid hs33
              have HM33 := Lib.hid (HM32.out.keep hb33)
              have HS33 := Lib.hid (HS32.out.below hb33)
              have hit : ∀ W', Below W1.heap.size W1 W' → W'.heap[W.heap.size + 2]? = some (.cells #[.bool mk, .string k, .int .i64 t, .int .i64 v] 32 (0, 0)) := fun W' h => (h.block _ (by have := Z1.out; omega)).trans R2.out
              have Hit := Lib.hid hit
              clear hst3 hb33 hs33 hit
              have hkv : k.size ≤ maxLen ∧ is64 v := ⟨hk, hv⟩
              have Hkv := Lib.hid hkv
              clear hkv hk hv
              go_upto_region 26 with fail
              generalize hW34 : World.setCell _ ⟨w8.heap.size, 5, none⟩ _ = w34
              have hch34 : Chg [w8.heap.size] w33 w34 := by rw [← hW34]; with_reducible exact chg6 _ _ _ _ _ _ _ _
              have hst34 : w34.heap[w8.heap.size]? = some (.cells #[.int .i64 T2.cnt.t, .int .i64 T2.cnt.l, .int .i64 T2.cnt.o, .int .i64 T2.cnt.f, .int .i64 (T2.L.length : Int), .int .i64 T2.now] 46 (0, 0)) := by rw [← hW34]; with_reducible exact set6 Hs33.out _ _ _ _ _ _
              clear hW34 f33 a0 a1 a2 a3 a4 a5
              have hM34 : Mine W1 w34 mp B2 T2 (n + 2) := HM33.out.chg hch34 (fun g hg => by rw [List.mem_singleton.1 hg]; exact ⟨Hns.out, HG9.out⟩)
              have hs34 : Sl 7 rowL w34 oa T.L := by
                refine HS33.out.keep hch34.size fun b off e hlt => hch34.block b hlt ?_
                have := (HOb.out b off e).1
                rw [List.mem_singleton]
                omega
              have hev := hM34.event (by omega) mk true k t v Hkv.out.1 Hkv.out.2
              have hev2 : Calls Tryz.prog 21 #[.pointer (some ⟨mp, 0, none⟩), .agg #[.bool mk, .string k, .int .i64 t, .int .i64 v], .bool true] w34 fun e w' => ∃ (f3 g3 : Int) (T3 : Mst), e = .returned (.tuple #[.int .i64 f3, .int .i64 g3]) ∧ ((f3 = 0 ∧ g3 ≠ 0 ∧ T3 = T2) ∨ (f3 = 4 ∧ g3 = 0 ∧ T3 = T2.counts { T2.cnt with f := T2.cnt.f + 1 })) ∧ Mine W1 w' mp B2 T3 (n + 3) ∧ Turn w34 w' B2 B2 := by
                refine hev.mono ?_
                rintro e w' ⟨rfl, hM, hT⟩
                refine ⟨_, _, _, rfl, ?_, hM, hT⟩
                rcases T2.event_full mk k t v with ⟨h1, h2, h3⟩ | h
                · exact Or.inl ⟨h2, h3, h1⟩
                · rw [h]; exact Or.inr ⟨rfl, rfl, rfl⟩
              have hi34 := Hit.out w34 hM34.below
              have i0 := cell_blk hi34 0
              have i1 := cell_blk hi34 1
              have i2 := cell_blk hi34 2
              have i3 := cell_blk hi34 3
              simp at i0 i1 i2 i3
              have HM34 := Lib.hid hM34
              have HS34 := Lib.hid hs34
              have Hs34 := Lib.hid hst34
              clear hev hM34 hs34 hst34 hch34 hi34
              go_upto_region 27 with (go_at_call 21; refine hev2.mono ?_; rintro e w35 ⟨f3, g3, T3, rfl, hcs, hM35, hT35⟩; have HC3 := Lib.hid hcs; have HM35 := Lib.hid hM35; have HT35 := Lib.hid hT35; clear hcs hM35 hT35 hev2)
              clear i0 i1 i2 i3
              have hl34 := lt_of_block Hs34.out
              have s35 : w35.heap[w8.heap.size]? = some (.cells #[.int .i64 T2.cnt.t, .int .i64 T2.cnt.l, .int .i64 T2.cnt.o, .int .i64 T2.cnt.f, .int .i64 (T2.L.length : Int), .int .i64 T2.now] 46 (0, 0)) := (HT35.out.away Hns.out hl34).2.trans Hs34.out
              have q35 : w35.heap[W.heap.size + 1]? = some (.cells #[.int .i64 qk, .int .i64 qi, .int .i64 qe, .slice qa cells.length qc, .int .i64 fv, .string fk, .int .i64 fs, .int .i64 tv, .string tk, .int .i64 ts, .int .i64 lim] 30 (0, 0)) := (HM35.out.below.block _ (by have := Z1.out; omega)).trans R1.out
              have hs35 : Sl 7 rowL w35 oa T.L := HS34.out.keep HT35.out.chg.size fun b off e hlt => (HT35.out.away (HOb.out b off e).2 hlt).2
              have kU : ∀ W', Below w35.heap.size w35 W' → RefS w35 (W.heap.size + 1) (W.heap.size + 1) w8.heap.size (.cells #[.int .i64 qk, .int .i64 qi, .int .i64 qe, .slice qa cells.length qc, .int .i64 fv, .string fk, .int .i64 fs, .int .i64 tv, .string tk, .int .i64 ts, .int .i64 lim] 30 (0, 0)) (.cells #[.int .i64 qk, .int .i64 qi, .int .i64 qe, .slice qa cells.length qc, .int .i64 fv, .string fk, .int .i64 fs, .int .i64 tv, .string tk, .int .i64 ts, .int .i64 lim] 30 (0, 0)) (.cells #[.int .i64 T2.cnt.t, .int .i64 T2.cnt.l, .int .i64 T2.cnt.o, .int .i64 T2.cnt.f, .int .i64 (T2.L.length : Int), .int .i64 T2.now] 46 (0, 0)) W' := fun W' h => RefS.of q35 q35 s35 W' h
              have HS35 := Lib.hid hs35
              clear s35 q35 hs35 hl34
              go_cut [186] from 160 to 186 (fun s wx => s = .bool false ∧ Below w35.heap.size w35 wx)
              case first =>
                have kT := kU
                clear kU
                have k0 := kT _ (Below.refl _ _).drew
                have Hwb0 := Lib.hid (Below.refl w35.heap.size w35).drew
                rcases HC3.out with ⟨hf3, hg3, hT3⟩ | ⟨hf3, hg3, hT3⟩
                · subst hf3
                  subst hT3
                  have hg0 : (g3 != 0) = true := by simp [hg3]
                  have hg1 : (g3 == 0) = false := by simpa using hg3
                  have hstt : ∀ W', Below w35.heap.size w35 W' → Calls Tryz.prog 16 #[.pointer (some ⟨mp, 0, none⟩)] W' fun e w' => e = .returned (statV T3.cnt.t T3.cnt.l T3.cnt.o T3.cnt.f T3.L.length T3.now) ∧ Below W'.heap.size W' w' := fun W' h => (HM35.out.keep h).stats
                  have hneS := fun W => run_neq_stats T3.cnt.t T3.cnt.l T3.cnt.o T3.cnt.f T3.L.length T3.now T3.cnt.t T3.cnt.l T3.cnt.o T3.cnt.f T3.L.length T3.now W
                  simp only [decide_true, Bool.not_true] at hneS
                  clear hg3
                  refine wp_region_held_drew (S := fun Wz => RefS w35 (W.heap.size + 1) (W.heap.size + 1) w8.heap.size (.cells #[.int .i64 qk, .int .i64 qi, .int .i64 qe, .slice qa cells.length qc, .int .i64 fv, .string fk, .int .i64 fs, .int .i64 tv, .string tk, .int .i64 ts, .int .i64 lim] 30 (0, 0)) (.cells #[.int .i64 qk, .int .i64 qi, .int .i64 qe, .slice qa cells.length qc, .int .i64 fv, .string fk, .int .i64 fs, .int .i64 tv, .string tk, .int .i64 ts, .int .i64 lim] 30 (0, 0)) (.cells #[.int .i64 T3.cnt.t, .int .i64 T3.cnt.l, .int .i64 T3.cnt.o, .int .i64 T3.cnt.f, .int .i64 (T3.L.length : Int), .int .i64 T3.now] 46 (0, 0)) Wz) (by kernel_rfl) k0 (fun hHeld => ?_)
                  refine wpAnyH_takeD (i := 0) (oi := _) (d := 160) (v := ?vg0) rfl (by kernel_rfl) (by kernel_rfl) (by kernel_rfl) (by kernel_rfl) (fun _ _ _ h => h) (Or.inl ⟨by kernel_rfl, ?yg0⟩) (by assumption) ?rg0
                  case yg0 =>
                    intro w' hSw
                    try dsimp only at hSw
                    go_simp
                    try with_reducible rfl
                  try simp only [Act.put, List.setIfInBounds_toArray, List.set_cons_zero, List.set_cons_succ]
                  refine wpAnyH_takeD (i := 1) (oi := _) (d := 161) (v := ?vg1) rfl (by kernel_rfl) (by kernel_rfl) (by kernel_rfl) (by kernel_rfl) (fun _ _ _ h => h) (Or.inl ⟨by kernel_rfl, ?yg1⟩) (by assumption) ?rg1
                  case yg1 =>
                    intro w' hSw
                    try dsimp only at hSw
                    go_simp
                    try with_reducible rfl
                  try simp only [Act.put, List.setIfInBounds_toArray, List.set_cons_zero, List.set_cons_succ]
                  refine wpAnyH_takeD (i := 2) (oi := _) (d := 162) (v := ?vg2) rfl (by kernel_rfl) (by kernel_rfl) (by kernel_rfl) (by kernel_rfl) (fun _ _ _ h => h) (Or.inl ⟨by kernel_rfl, ?yg2⟩) (by assumption) ?rg2
                  case yg2 =>
                    intro w' hSw
                    try dsimp only at hSw
                    go_simp
                    try with_reducible rfl
                  try simp only [Act.put, List.setIfInBounds_toArray, List.set_cons_zero, List.set_cons_succ]
                  refine wpAnyH_takeD (i := 3) (oi := _) (d := 163) (v := ?vg3) rfl (by kernel_rfl) (by kernel_rfl) (by kernel_rfl) (by kernel_rfl) (fun _ _ _ h => h) (Or.inl ⟨by kernel_rfl, ?yg3⟩) (by assumption) ?rg3
                  case yg3 =>
                    intro w' hSw
                    try dsimp only at hSw
                    go_simp
                    try with_reducible rfl
                  try simp only [Act.put, List.setIfInBounds_toArray, List.set_cons_zero, List.set_cons_succ]
                  refine wpAnyH_takeD (i := 4) (oi := _) (d := 164) (v := ?vg4) rfl (by kernel_rfl) (by kernel_rfl) (by kernel_rfl) (by kernel_rfl) (fun _ _ _ h => h) (Or.inl ⟨by kernel_rfl, ?yg4⟩) (by assumption) ?rg4
                  case yg4 =>
                    intro w' hSw
                    try dsimp only at hSw
                    go_simp
                    try with_reducible rfl
                  try simp only [Act.put, List.setIfInBounds_toArray, List.set_cons_zero, List.set_cons_succ]
                  refine wpAnyH_takeD (i := 5) (oi := _) (d := 165) (v := ?vg5) rfl (by kernel_rfl) (by kernel_rfl) (by kernel_rfl) (by kernel_rfl) (fun _ _ _ h => h) (Or.inl ⟨by kernel_rfl, ?yg5⟩) (by assumption) ?rg5
                  case yg5 =>
                    intro w' hSw
                    try dsimp only at hSw
                    go_simp
                    try with_reducible rfl
                  try simp only [Act.put, List.setIfInBounds_toArray, List.set_cons_zero, List.set_cons_succ]
                  refine wpAnyH_takeD (i := 6) (oi := _) (d := 166) (v := ?vg6) rfl (by kernel_rfl) (by kernel_rfl) (by kernel_rfl) (by kernel_rfl) (fun _ _ _ h => h) (Or.inl ⟨by kernel_rfl, ?yg6⟩) (by assumption) ?rg6
                  case yg6 =>
                    intro w' hSw
                    try dsimp only at hSw
                    go_simp
                    try with_reducible rfl
                  try simp only [Act.put, List.setIfInBounds_toArray, List.set_cons_zero, List.set_cons_succ]
                  refine wpAnyH_takeD (i := 8) (oi := _) (d := 168) (v := ?vg8) rfl (by kernel_rfl) (by kernel_rfl) (by kernel_rfl) (by kernel_rfl) (fun _ _ _ h => h) (Or.inl ⟨by kernel_rfl, ?yg8⟩) (by assumption) ?rg8
                  case yg8 =>
                    intro w' hSw
                    obtain ⟨sB, sQ, sR, sS⟩ := hSw
                    have x0 := cell_blk sS 0
                    have x1 := cell_blk sS 1
                    have x2 := cell_blk sS 2
                    have x3 := cell_blk sS 3
                    have x4 := cell_blk sS 4
                    have x5 := cell_blk sS 5
                    simp at x0 x1 x2 x3 x4 x5
                    go_simp
                    try with_reducible rfl
                  try simp only [Act.put, List.setIfInBounds_toArray, List.set_cons_zero, List.set_cons_succ]
                  refine wpAnyH_ready (rs := [7]) (by kernel_rfl) (by simp) ?_
                  refine AllReadyH.cons (o := _) rfl (fun K hK => ?_) AllReadyH.nil
                  go_simp
                  go_at_call 16
                  refine (hstt _ Hwb0.out).mono ?_
                  rintro e wcc ⟨rfl, hbwcc⟩
                  have hb0 : Below w35.heap.size w35 wcc := Hwb0.out.trans (hbwcc.mono Hwb0.out.size)
                  have kwcc := kT wcc hb0
                  have Hwcc := Lib.hid hb0
                  clear hbwcc hb0
                  refine hK.out _ _ kwcc (fun _ => ?_)
                  clear hK K
                  try simp only [Act.put, List.setIfInBounds_toArray, List.set_cons_zero, List.set_cons_succ]
                  refine wpAnyH_takeD (i := 9) (oi := _) (d := 169) (v := ?vg9) rfl (by kernel_rfl) (by kernel_rfl) (by kernel_rfl) (by kernel_rfl) (fun _ _ _ h => h) (Or.inl ⟨by kernel_rfl, ?yg9⟩) (by assumption) ?rg9
                  case yg9 =>
                    intro w' hSw
                    try dsimp only at hSw
                    go_simp
                    try with_reducible rfl
                  try simp only [Act.put, List.setIfInBounds_toArray, List.set_cons_zero, List.set_cons_succ]
                  refine wpAnyH_takeD (i := 10) (oi := _) (d := 170) (v := ?vg10) rfl (by kernel_rfl) (by kernel_rfl) (by kernel_rfl) (by kernel_rfl) (fun _ _ _ h => h) (Or.inl ⟨by kernel_rfl, ?yg10⟩) (by assumption) ?rg10
                  case yg10 =>
                    intro w' hSw
                    try dsimp only at hSw
                    go_simp
                    try with_reducible rfl
                  try simp only [Act.put, List.setIfInBounds_toArray, List.set_cons_zero, List.set_cons_succ]
                  refine wpAnyH_takeD (i := 11) (oi := _) (d := 171) (v := ?vg11) rfl (by kernel_rfl) (by kernel_rfl) (by kernel_rfl) (by kernel_rfl) (fun _ _ _ h => h) (Or.inl ⟨by kernel_rfl, ?yg11⟩) (by assumption) ?rg11
                  case yg11 =>
                    intro w' hSw
                    try dsimp only at hSw
                    go_simp
                    try with_reducible rfl
                  try simp only [Act.put, List.setIfInBounds_toArray, List.set_cons_zero, List.set_cons_succ]
                  refine wpAnyH_takeD (i := 12) (oi := _) (d := 172) (v := ?vg12) rfl (by kernel_rfl) (by kernel_rfl) (by kernel_rfl) (by kernel_rfl) (fun _ _ _ h => h) (Or.inl ⟨by kernel_rfl, ?yg12⟩) (by assumption) ?rg12
                  case yg12 =>
                    intro w' hSw
                    try dsimp only at hSw
                    go_simp
                    try with_reducible rfl
                  try simp only [Act.put, List.setIfInBounds_toArray, List.set_cons_zero, List.set_cons_succ]
                  refine wpAnyH_takeD (i := 13) (oi := _) (d := 173) (v := ?vg13) rfl (by kernel_rfl) (by kernel_rfl) (by kernel_rfl) (by kernel_rfl) (fun _ _ _ h => h) (Or.inl ⟨by kernel_rfl, ?yg13⟩) (by assumption) ?rg13
                  case yg13 =>
                    intro w' hSw
                    try dsimp only at hSw
                    go_simp
                    try with_reducible rfl
                  try simp only [Act.put, List.setIfInBounds_toArray, List.set_cons_zero, List.set_cons_succ]
                  refine wpAnyH_takeD (i := 14) (oi := _) (d := 174) (v := ?vg14) rfl (by kernel_rfl) (by kernel_rfl) (by kernel_rfl) (by kernel_rfl) (fun _ _ _ h => h) (Or.inl ⟨by kernel_rfl, ?yg14⟩) (by assumption) ?rg14
                  case yg14 =>
                    intro w' hSw
                    try dsimp only at hSw
                    go_simp
                    try with_reducible rfl
                  try simp only [Act.put, List.setIfInBounds_toArray, List.set_cons_zero, List.set_cons_succ]
                  refine wpAnyH_takeD (i := 15) (oi := _) (d := 175) (v := ?vg15) rfl (by kernel_rfl) (by kernel_rfl) (by kernel_rfl) (by kernel_rfl) (fun _ _ _ h => h) (Or.inl ⟨by kernel_rfl, ?yg15⟩) (by assumption) ?rg15
                  case yg15 =>
                    intro w' hSw
                    try dsimp only at hSw
                    go_simp
                    try with_reducible rfl
                  try simp only [Act.put, List.setIfInBounds_toArray, List.set_cons_zero, List.set_cons_succ]
                  refine wpAnyH_takeD (i := 16) (oi := _) (d := 176) (v := undef) rfl (by kernel_rfl) (by kernel_rfl) (by kernel_rfl) (by kernel_rfl) (fun _ _ _ h => h) (Or.inr ⟨by kernel_rfl, rfl⟩) (by assumption) ?_
                  try simp only [Act.put, List.setIfInBounds_toArray, List.set_cons_zero, List.set_cons_succ]
                  refine wpAnyH_takeD (i := 17) (oi := _) (d := 177) (v := undef) rfl (by kernel_rfl) (by kernel_rfl) (by kernel_rfl) (by kernel_rfl) (fun _ _ _ h => h) (Or.inr ⟨by kernel_rfl, rfl⟩) (by assumption) ?_
                  try simp only [Act.put, List.setIfInBounds_toArray, List.set_cons_zero, List.set_cons_succ]
                  refine wpAnyH_takeD (i := 18) (oi := _) (d := 178) (v := undef) rfl (by kernel_rfl) (by kernel_rfl) (by kernel_rfl) (by kernel_rfl) (fun _ _ _ h => h) (Or.inr ⟨by kernel_rfl, rfl⟩) (by assumption) ?_
                  try simp only [Act.put, List.setIfInBounds_toArray, List.set_cons_zero, List.set_cons_succ]
                  refine wpAnyH_takeD (i := 19) (oi := _) (d := 179) (v := undef) rfl (by kernel_rfl) (by kernel_rfl) (by kernel_rfl) (by kernel_rfl) (fun _ _ _ h => h) (Or.inr ⟨by kernel_rfl, rfl⟩) (by assumption) ?_
                  try simp only [Act.put, List.setIfInBounds_toArray, List.set_cons_zero, List.set_cons_succ]
                  refine wpAnyH_takeD (i := 20) (oi := _) (d := 180) (v := undef) rfl (by kernel_rfl) (by kernel_rfl) (by kernel_rfl) (by kernel_rfl) (fun _ _ _ h => h) (Or.inr ⟨by kernel_rfl, rfl⟩) (by assumption) ?_
                  try simp only [Act.put, List.setIfInBounds_toArray, List.set_cons_zero, List.set_cons_succ]
                  refine wpAnyH_takeD (i := 21) (oi := _) (d := 181) (v := undef) rfl (by kernel_rfl) (by kernel_rfl) (by kernel_rfl) (by kernel_rfl) (fun _ _ _ h => h) (Or.inr ⟨by kernel_rfl, rfl⟩) (by assumption) ?_
                  try simp only [Act.put, List.setIfInBounds_toArray, List.set_cons_zero, List.set_cons_succ]
                  refine wpAnyH_takeD (i := 22) (oi := _) (d := 182) (v := undef) rfl (by kernel_rfl) (by kernel_rfl) (by kernel_rfl) (by kernel_rfl) (fun _ _ _ h => h) (Or.inr ⟨by kernel_rfl, rfl⟩) (by assumption) ?_
                  try simp only [Act.put, List.setIfInBounds_toArray, List.set_cons_zero, List.set_cons_succ]
                  refine wpAnyH_takeD (i := 23) (oi := _) (d := 183) (v := undef) rfl (by kernel_rfl) (by kernel_rfl) (by kernel_rfl) (by kernel_rfl) (fun _ _ _ h => h) (Or.inr ⟨by kernel_rfl, rfl⟩) (by assumption) ?_
                  try simp only [Act.put, List.setIfInBounds_toArray, List.set_cons_zero, List.set_cons_succ]
                  refine wpAnyH_takeD (i := 24) (oi := _) (d := 184) (v := undef) rfl (by kernel_rfl) (by kernel_rfl) (by kernel_rfl) (by kernel_rfl) (fun _ _ _ h => h) (Or.inr ⟨by kernel_rfl, rfl⟩) (by assumption) ?_
                  try simp only [Act.put, List.setIfInBounds_toArray, List.set_cons_zero, List.set_cons_succ]
                  refine wpAnyH_takeD (i := 25) (oi := _) (d := 185) (v := ?vg25) rfl (by kernel_rfl) (by kernel_rfl) (by kernel_rfl) (by kernel_rfl) (fun _ _ _ h => h) (Or.inl ⟨by kernel_rfl, ?yg25⟩) (by assumption) ?rg25
                  case yg25 =>
                    intro w' hSw
                    try dsimp only at hSw
                    go_simp
                    try with_reducible rfl
                  try simp only [Act.put, List.setIfInBounds_toArray, List.set_cons_zero, List.set_cons_succ]
                  refine wpAnyH_takeD (i := 26) (oi := _) (d := 186) (v := ?vg26) rfl (by kernel_rfl) (by kernel_rfl) (by kernel_rfl) (by kernel_rfl) (fun _ _ _ h => h) (Or.inl ⟨by kernel_rfl, ?yg26⟩) (by assumption) ?rg26
                  case yg26 =>
                    intro w' hSw
                    try dsimp only at hSw
                    go_simp
                    try with_reducible rfl
                  try simp only [Act.put, List.setIfInBounds_toArray, List.set_cons_zero, List.set_cons_succ]
                  refine wpAnyH_done (by kernel_rfl) ?_ _
                  go_wp2_with fail
                  go_meet
                  exact ⟨rfl, Hwcc.out⟩
                · subst hf3
                  subst hg3
                  subst hT3
                  have hb4 := HM34.out.few.cf
                  have hb5 := HM34.out.md.inv.cnt
                  have hstt : ∀ W', Below w35.heap.size w35 W' → Calls Tryz.prog 16 #[.pointer (some ⟨mp, 0, none⟩)] W' fun e w' => e = .returned (statV T2.cnt.t T2.cnt.l T2.cnt.o (T2.cnt.f + 1) T2.L.length T2.now) ∧ Below W'.heap.size W' w' := fun W' h => (HM35.out.keep h).stats
                  have hcnt : ∀ W', Calls Tryz.prog 22 #[statV T2.cnt.t T2.cnt.l T2.cnt.o T2.cnt.f T2.L.length T2.now, .int .i64 4] W' fun e w' => e = .returned (statV T2.cnt.t T2.cnt.l T2.cnt.o (T2.cnt.f + 1) T2.L.length T2.now) ∧ Below W'.heap.size W' w' := fun W' => counted_4 _ _ _ _ _ _ W' hb5.2.2.2 (by omega)
                  have hneS := fun W => run_neq_stats T2.cnt.t T2.cnt.l T2.cnt.o (T2.cnt.f + 1) T2.L.length T2.now T2.cnt.t T2.cnt.l T2.cnt.o (T2.cnt.f + 1) T2.L.length T2.now W
                  simp only [decide_true, Bool.not_true] at hneS
                  clear hb4 hb5
                  refine wp_region_held_drew (S := fun Wz => RefS w35 (W.heap.size + 1) (W.heap.size + 1) w8.heap.size (.cells #[.int .i64 qk, .int .i64 qi, .int .i64 qe, .slice qa cells.length qc, .int .i64 fv, .string fk, .int .i64 fs, .int .i64 tv, .string tk, .int .i64 ts, .int .i64 lim] 30 (0, 0)) (.cells #[.int .i64 qk, .int .i64 qi, .int .i64 qe, .slice qa cells.length qc, .int .i64 fv, .string fk, .int .i64 fs, .int .i64 tv, .string tk, .int .i64 ts, .int .i64 lim] 30 (0, 0)) (.cells #[.int .i64 T2.cnt.t, .int .i64 T2.cnt.l, .int .i64 T2.cnt.o, .int .i64 T2.cnt.f, .int .i64 (T2.L.length : Int), .int .i64 T2.now] 46 (0, 0)) Wz) (by kernel_rfl) k0 (fun hHeld => ?_)
                  refine wpAnyH_takeD (i := 0) (oi := _) (d := 160) (v := ?vh0) rfl (by kernel_rfl) (by kernel_rfl) (by kernel_rfl) (by kernel_rfl) (fun _ _ _ h => h) (Or.inl ⟨by kernel_rfl, ?yh0⟩) (by assumption) ?rh0
                  case yh0 =>
                    intro w' hSw
                    try dsimp only at hSw
                    go_simp
                    try with_reducible rfl
                  try simp only [Act.put, List.setIfInBounds_toArray, List.set_cons_zero, List.set_cons_succ]
                  refine wpAnyH_takeD (i := 1) (oi := _) (d := 161) (v := ?vh1) rfl (by kernel_rfl) (by kernel_rfl) (by kernel_rfl) (by kernel_rfl) (fun _ _ _ h => h) (Or.inl ⟨by kernel_rfl, ?yh1⟩) (by assumption) ?rh1
                  case yh1 =>
                    intro w' hSw
                    try dsimp only at hSw
                    go_simp
                    try with_reducible rfl
                  try simp only [Act.put, List.setIfInBounds_toArray, List.set_cons_zero, List.set_cons_succ]
                  refine wpAnyH_takeD (i := 2) (oi := _) (d := 162) (v := ?vh2) rfl (by kernel_rfl) (by kernel_rfl) (by kernel_rfl) (by kernel_rfl) (fun _ _ _ h => h) (Or.inl ⟨by kernel_rfl, ?yh2⟩) (by assumption) ?rh2
                  case yh2 =>
                    intro w' hSw
                    try dsimp only at hSw
                    go_simp
                    try with_reducible rfl
                  try simp only [Act.put, List.setIfInBounds_toArray, List.set_cons_zero, List.set_cons_succ]
                  refine wpAnyH_takeD (i := 3) (oi := _) (d := 163) (v := undef) rfl (by kernel_rfl) (by kernel_rfl) (by kernel_rfl) (by kernel_rfl) (fun _ _ _ h => h) (Or.inr ⟨by kernel_rfl, rfl⟩) (by assumption) ?_
                  try simp only [Act.put, List.setIfInBounds_toArray, List.set_cons_zero, List.set_cons_succ]
                  refine wpAnyH_takeD (i := 4) (oi := _) (d := 164) (v := undef) rfl (by kernel_rfl) (by kernel_rfl) (by kernel_rfl) (by kernel_rfl) (fun _ _ _ h => h) (Or.inr ⟨by kernel_rfl, rfl⟩) (by assumption) ?_
                  try simp only [Act.put, List.setIfInBounds_toArray, List.set_cons_zero, List.set_cons_succ]
                  refine wpAnyH_takeD (i := 5) (oi := _) (d := 165) (v := undef) rfl (by kernel_rfl) (by kernel_rfl) (by kernel_rfl) (by kernel_rfl) (fun _ _ _ h => h) (Or.inr ⟨by kernel_rfl, rfl⟩) (by assumption) ?_
                  try simp only [Act.put, List.setIfInBounds_toArray, List.set_cons_zero, List.set_cons_succ]
                  refine wpAnyH_takeD (i := 6) (oi := _) (d := 166) (v := undef) rfl (by kernel_rfl) (by kernel_rfl) (by kernel_rfl) (by kernel_rfl) (fun _ _ _ h => h) (Or.inr ⟨by kernel_rfl, rfl⟩) (by assumption) ?_
                  try simp only [Act.put, List.setIfInBounds_toArray, List.set_cons_zero, List.set_cons_succ]
                  refine wpAnyH_takeD (i := 7) (oi := _) (d := 167) (v := undef) rfl (by kernel_rfl) (by kernel_rfl) (by kernel_rfl) (by kernel_rfl) (fun _ _ _ h => h) (Or.inr ⟨by kernel_rfl, rfl⟩) (by assumption) ?_
                  try simp only [Act.put, List.setIfInBounds_toArray, List.set_cons_zero, List.set_cons_succ]
                  refine wpAnyH_takeD (i := 8) (oi := _) (d := 168) (v := undef) rfl (by kernel_rfl) (by kernel_rfl) (by kernel_rfl) (by kernel_rfl) (fun _ _ _ h => h) (Or.inr ⟨by kernel_rfl, rfl⟩) (by assumption) ?_
                  try simp only [Act.put, List.setIfInBounds_toArray, List.set_cons_zero, List.set_cons_succ]
                  refine wpAnyH_takeD (i := 9) (oi := _) (d := 169) (v := undef) rfl (by kernel_rfl) (by kernel_rfl) (by kernel_rfl) (by kernel_rfl) (fun _ _ _ h => h) (Or.inr ⟨by kernel_rfl, rfl⟩) (by assumption) ?_
                  try simp only [Act.put, List.setIfInBounds_toArray, List.set_cons_zero, List.set_cons_succ]
                  refine wpAnyH_takeD (i := 10) (oi := _) (d := 170) (v := undef) rfl (by kernel_rfl) (by kernel_rfl) (by kernel_rfl) (by kernel_rfl) (fun _ _ _ h => h) (Or.inr ⟨by kernel_rfl, rfl⟩) (by assumption) ?_
                  try simp only [Act.put, List.setIfInBounds_toArray, List.set_cons_zero, List.set_cons_succ]
                  refine wpAnyH_takeD (i := 11) (oi := _) (d := 171) (v := ?vh11) rfl (by kernel_rfl) (by kernel_rfl) (by kernel_rfl) (by kernel_rfl) (fun _ _ _ h => h) (Or.inl ⟨by kernel_rfl, ?yh11⟩) (by assumption) ?rh11
                  case yh11 =>
                    intro w' hSw
                    try dsimp only at hSw
                    go_simp
                    try with_reducible rfl
                  try simp only [Act.put, List.setIfInBounds_toArray, List.set_cons_zero, List.set_cons_succ]
                  refine wpAnyH_takeD (i := 12) (oi := _) (d := 172) (v := ?vh12) rfl (by kernel_rfl) (by kernel_rfl) (by kernel_rfl) (by kernel_rfl) (fun _ _ _ h => h) (Or.inl ⟨by kernel_rfl, ?yh12⟩) (by assumption) ?rh12
                  case yh12 =>
                    intro w' hSw
                    try dsimp only at hSw
                    go_simp
                    try with_reducible rfl
                  try simp only [Act.put, List.setIfInBounds_toArray, List.set_cons_zero, List.set_cons_succ]
                  refine wpAnyH_takeD (i := 13) (oi := _) (d := 173) (v := ?vh13) rfl (by kernel_rfl) (by kernel_rfl) (by kernel_rfl) (by kernel_rfl) (fun _ _ _ h => h) (Or.inl ⟨by kernel_rfl, ?yh13⟩) (by assumption) ?rh13
                  case yh13 =>
                    intro w' hSw
                    try dsimp only at hSw
                    go_simp
                    try with_reducible rfl
                  try simp only [Act.put, List.setIfInBounds_toArray, List.set_cons_zero, List.set_cons_succ]
                  refine wpAnyH_takeD (i := 14) (oi := _) (d := 174) (v := ?vh14) rfl (by kernel_rfl) (by kernel_rfl) (by kernel_rfl) (by kernel_rfl) (fun _ _ _ h => h) (Or.inl ⟨by kernel_rfl, ?yh14⟩) (by assumption) ?rh14
                  case yh14 =>
                    intro w' hSw
                    try dsimp only at hSw
                    go_simp
                    try with_reducible rfl
                  try simp only [Act.put, List.setIfInBounds_toArray, List.set_cons_zero, List.set_cons_succ]
                  refine wpAnyH_takeD (i := 15) (oi := _) (d := 175) (v := ?vh15) rfl (by kernel_rfl) (by kernel_rfl) (by kernel_rfl) (by kernel_rfl) (fun _ _ _ h => h) (Or.inl ⟨by kernel_rfl, ?yh15⟩) (by assumption) ?rh15
                  case yh15 =>
                    intro w' hSw
                    try dsimp only at hSw
                    go_simp
                    try with_reducible rfl
                  try simp only [Act.put, List.setIfInBounds_toArray, List.set_cons_zero, List.set_cons_succ]
                  refine wpAnyH_takeD (i := 16) (oi := _) (d := 176) (v := ?vh16) rfl (by kernel_rfl) (by kernel_rfl) (by kernel_rfl) (by kernel_rfl) (fun _ _ _ h => h) (Or.inl ⟨by kernel_rfl, ?yh16⟩) (by assumption) ?rh16
                  case yh16 =>
                    intro w' hSw
                    try dsimp only at hSw
                    go_simp
                    try with_reducible rfl
                  try simp only [Act.put, List.setIfInBounds_toArray, List.set_cons_zero, List.set_cons_succ]
                  refine wpAnyH_takeD (i := 17) (oi := _) (d := 177) (v := ?vh17) rfl (by kernel_rfl) (by kernel_rfl) (by kernel_rfl) (by kernel_rfl) (fun _ _ _ h => h) (Or.inl ⟨by kernel_rfl, ?yh17⟩) (by assumption) ?rh17
                  case yh17 =>
                    intro w' hSw
                    try dsimp only at hSw
                    go_simp
                    try with_reducible rfl
                  try simp only [Act.put, List.setIfInBounds_toArray, List.set_cons_zero, List.set_cons_succ]
                  refine wpAnyH_takeD (i := 18) (oi := _) (d := 178) (v := ?vh18) rfl (by kernel_rfl) (by kernel_rfl) (by kernel_rfl) (by kernel_rfl) (fun _ _ _ h => h) (Or.inl ⟨by kernel_rfl, ?yh18⟩) (by assumption) ?rh18
                  case yh18 =>
                    intro w' hSw
                    try dsimp only at hSw
                    go_simp
                    try with_reducible rfl
                  try simp only [Act.put, List.setIfInBounds_toArray, List.set_cons_zero, List.set_cons_succ]
                  refine wpAnyH_takeD (i := 19) (oi := _) (d := 179) (v := ?vh19) rfl (by kernel_rfl) (by kernel_rfl) (by kernel_rfl) (by kernel_rfl) (fun _ _ _ h => h) (Or.inl ⟨by kernel_rfl, ?yh19⟩) (by assumption) ?rh19
                  case yh19 =>
                    intro w' hSw
                    try dsimp only at hSw
                    go_simp
                    try with_reducible rfl
                  try simp only [Act.put, List.setIfInBounds_toArray, List.set_cons_zero, List.set_cons_succ]
                  refine wpAnyH_takeD (i := 21) (oi := _) (d := 181) (v := ?vh21) rfl (by kernel_rfl) (by kernel_rfl) (by kernel_rfl) (by kernel_rfl) (fun _ _ _ h => h) (Or.inl ⟨by kernel_rfl, ?yh21⟩) (by assumption) ?rh21
                  case yh21 =>
                    intro w' hSw
                    obtain ⟨sB, sQ, sR, sS⟩ := hSw
                    have x0 := cell_blk sS 0
                    have x1 := cell_blk sS 1
                    have x2 := cell_blk sS 2
                    have x3 := cell_blk sS 3
                    have x4 := cell_blk sS 4
                    have x5 := cell_blk sS 5
                    simp at x0 x1 x2 x3 x4 x5
                    go_simp
                    try with_reducible rfl
                  try simp only [Act.put, List.setIfInBounds_toArray, List.set_cons_zero, List.set_cons_succ]
                  refine wpAnyH_ready (rs := [20]) (by kernel_rfl) (by simp) ?_
                  refine AllReadyH.cons (o := _) rfl (fun K hK => ?_) AllReadyH.nil
                  go_simp
                  go_at_call 16
                  refine (hstt _ Hwb0.out).mono ?_
                  rintro e wcc ⟨rfl, hbwcc⟩
                  have hb0 : Below w35.heap.size w35 wcc := Hwb0.out.trans (hbwcc.mono Hwb0.out.size)
                  have kwcc := kT wcc hb0
                  have Hwcc := Lib.hid hb0
                  clear hbwcc hb0
                  refine hK.out _ _ kwcc (fun _ => ?_)
                  clear hK K
                  try simp only [Act.put, List.setIfInBounds_toArray, List.set_cons_zero, List.set_cons_succ]
                  refine wpAnyH_ready (rs := [22]) (by kernel_rfl) (by simp) ?_
                  refine AllReadyH.cons (o := _) rfl (fun K hK => ?_) AllReadyH.nil
                  go_simp
                  go_at_call 22
                  refine (hcnt wcc).mono ?_
                  rintro e wd ⟨rfl, hbwd⟩
                  have hb0 : Below w35.heap.size w35 wd := Hwcc.out.trans (hbwd.mono Hwcc.out.size)
                  have kwd := kT wd hb0
                  have Hwd := Lib.hid hb0
                  clear hbwd hb0
                  refine hK.out _ _ kwd (fun _ => ?_)
                  clear hK K
                  try simp only [Act.put, List.setIfInBounds_toArray, List.set_cons_zero, List.set_cons_succ]
                  refine wpAnyH_takeD (i := 23) (oi := _) (d := 183) (v := ?vh23) rfl (by kernel_rfl) (by kernel_rfl) (by kernel_rfl) (by kernel_rfl) (fun _ _ _ h => h) (Or.inl ⟨by kernel_rfl, ?yh23⟩) (by assumption) ?rh23
                  case yh23 =>
                    intro w' hSw
                    try dsimp only at hSw
                    go_simp
                    try with_reducible rfl
                  try simp only [Act.put, List.setIfInBounds_toArray, List.set_cons_zero, List.set_cons_succ]
                  refine wpAnyH_takeD (i := 24) (oi := _) (d := 184) (v := ?vh24) rfl (by kernel_rfl) (by kernel_rfl) (by kernel_rfl) (by kernel_rfl) (fun _ _ _ h => h) (Or.inl ⟨by kernel_rfl, ?yh24⟩) (by assumption) ?rh24
                  case yh24 =>
                    intro w' hSw
                    try dsimp only at hSw
                    go_simp
                    try with_reducible rfl
                  try simp only [Act.put, List.setIfInBounds_toArray, List.set_cons_zero, List.set_cons_succ]
                  refine wpAnyH_takeD (i := 25) (oi := _) (d := 185) (v := ?vh25) rfl (by kernel_rfl) (by kernel_rfl) (by kernel_rfl) (by kernel_rfl) (fun _ _ _ h => h) (Or.inl ⟨by kernel_rfl, ?yh25⟩) (by assumption) ?rh25
                  case yh25 =>
                    intro w' hSw
                    try dsimp only at hSw
                    go_simp
                    try with_reducible rfl
                  try simp only [Act.put, List.setIfInBounds_toArray, List.set_cons_zero, List.set_cons_succ]
                  refine wpAnyH_takeD (i := 26) (oi := _) (d := 186) (v := ?vh26) rfl (by kernel_rfl) (by kernel_rfl) (by kernel_rfl) (by kernel_rfl) (fun _ _ _ h => h) (Or.inl ⟨by kernel_rfl, ?yh26⟩) (by assumption) ?rh26
                  case yh26 =>
                    intro w' hSw
                    try dsimp only at hSw
                    go_simp
                    try with_reducible rfl
                  try simp only [Act.put, List.setIfInBounds_toArray, List.set_cons_zero, List.set_cons_succ]
                  refine wpAnyH_done (by kernel_rfl) ?_ _
                  go_wp2_with fail
                  go_meet
                  exact ⟨rfl, Hwd.out⟩
              case rest =>
                obtain ⟨rfl, hbz⟩ := hcut
                have hMz := HM35.out.keep hbz
                have hTL3 : T3.L = T.L := by
                  rcases HC3.out with ⟨_, _, h⟩ | ⟨_, _, h⟩
                  · rw [h]; exact HTL.out
                  · rw [h]; exact HTL.out
                have hmap := hMz.map (by omega)
                rw [hTL3] at hmap
                have HSz := Lib.hid (HS35.out.below hbz)
                have HMz := Lib.hid hMz
                clear hMz hTL3 hbz kU
                go_wp2_with fail
                refine hmap.mono ?_
                rintro e w41 ⟨v41, rfl, ho41, hb41⟩
                obtain ⟨oa5, oc5, rfl, _⟩ := ho41.sl fun _ => rfl
                have HM41 := Lib.hid (HMz.out.keep hb41)
                have hsm4 := Hsame.out oa5 oc5 w41 (ho41.sl0 (fun _ => rfl)) (HSz.out.below hb41)
                clear hmap ho41 hb41
                go_wp2_with fail
                refine hsm4.mono ?_
                rintro e w42 ⟨rfl, hb42⟩
                have HM42 := Lib.hid (HM41.out.keep hb42)
                clear hsm4 hb42
                go_wp2_with fail
                refine (hhead _).mono ?_
                rintro e w43 ⟨rfl, hb43⟩
                have HM43 := Lib.hid (HM42.out.keep hb43)
                clear hb43
                go_wp2_with fail
                go_ret
                exact ⟨rfl, Hb1.out.trans (HM43.out.below.mono Hb1.out.size)⟩
/-- As the law's arguments lie. -/
theorem refused_top (c : Cfg) (A : Option Addr) (cap : Nat) (A1 : Option Addr) (cap1 : Nat) (l : List Opx) (se : Int) (q : Rq) (qa : Option Addr) (qc : Nat) (b : Bool) (mk : Bool) (k : ByteArray) (t v : Int) (W : World)
    (hs : Sl 3 viewL W A c.vs) (h1 : c.vs.length ≤ cap) (h2 : cap ≤ maxLen) (hs1 : Sl 25 opL W A1 l) (hok : ∀ o ∈ l, OpOk W o) (h3 : l.length ≤ cap1) (h4 : cap1 ≤ maxLen) (hq : Sl 3 cellL W qa q.cells) (h5 : q.cells.length ≤ qc) (h6 : qc ≤ maxLen) (hk : k.size ≤ maxLen) (hv : is64 v) :
    Calls Tryz.prog 3 #[cfgV c A cap, .slice A1 l.length cap1, .int .i64 se, .agg (q.at qa qc), .bool b, itemV mk k t v] W fun e W' => e = .returned (.bool true) ∧ Below W.heap.size W W' := by
  obtain ⟨qk, qi, qe, cells, ⟨fv, fk, fs⟩, ⟨tv, tk, ts⟩, lim⟩ := q
  have hm : maxLen ≤ 9223372036854775807 := by decide
  exact refused_any c A cap A1 cap1 l se qk qi qe qa cells qc fv fk fs tv tk ts lim mk k t v b W hs (by omega) hs1 hok (by omega) hq (by dsimp only at h5; omega) hk hv
end Go.Proofs.YtaicecnfodhlcaaGreat
/- ModelRefused: the Go function 'spate/spatelaw19.ModelRefused' returns true and its arguments read afterwards as before, in every world. Conditions: none. -/
set_option linter.unusedVariables false
namespace Go.Proofs.YtaicecnfodhlcaaGreat.modelRefused
open Go.ChangeShapes Go.WideShapes Go.ChangeAt Go.RowKit Go.ChangeMaps

theorem own : ownKnob Tryz.prog.godebug = none := by kernel_rfl

set_option maxRecDepth 100000 in
theorem contract (H : Type) (enc : TypeId × Value → H) (W : World) (base : Nat) (args : Array Value) (ds gs : List (DataW H)) (before : List MemPlace)
    (hval : ∀ (j : Nat) t v, Tryz.f3.params[j]? = some t → args[j]? = some v → Value.okWide Tryz.prog W .any base t v)
    (hW : DataW.Whole enc Tryz.prog Tryz.f3.params.toList Rows.modelRefusedSpec.vars false W args.toList ds gs before) :
    Calls Tryz.prog 3 args W fun e W' => ∃ v, e = .returned v ∧ Rows.modelRefusedSpec.post enc Tryz.prog Tryz.f3 false true false false W args v W' := by
  have hW' := hW
  obtain ⟨p, q, hA0, hV, rfl, hfz, hnd⟩ := hW
  have hA : DataW.TrodAll enc Tryz.prog W 0 (fun _ => true) true Tryz.f3.params.toList args.toList ds p := hA0
  rw [Tryz.params3] at hA hval
  obtain ⟨v0, vs0, d0, ds0, p0, q0, hargs, rfl, rfl, ⟨n0, h0⟩, r0⟩ := trodAll_cons hA
  obtain ⟨v1, vs1, d1, ds1, p1, q1, rfl, rfl, rfl, ⟨n1, h1⟩, r1⟩ := trodAll_cons r0
  obtain ⟨v2, vs2, d2, ds2, p2, q2, rfl, rfl, rfl, h2, r2⟩ := trodAll_cons r1
  obtain ⟨v3, vs3, d3, ds3, p3, q3, rfl, rfl, rfl, ⟨n3, h3⟩, r3⟩ := trodAll_cons r2
  obtain ⟨v4, vs4, d4, ds4, p4, q4, rfl, rfl, rfl, h4, r4⟩ := trodAll_cons r3
  obtain ⟨v5, vs5, d5, ds5, p5, q5, rfl, rfl, rfl, ⟨n5, h5⟩, r5⟩ := trodAll_cons r4
  obtain ⟨rfl, rfl, rfl⟩ := trodAll_nil r5
  obtain rfl : args = #[v0, v1, v2, v3, v4, v5] := by
    obtain ⟨l⟩ := args
    exact congrArg Array.mk hargs
  obtain ⟨rfl, rfl⟩ := trodVars_none hV
  obtain ⟨⟨a0⟩, rfl, _⟩ := okWide_struct Tryz.underlying24 (hval 0 24 v0 rfl rfl)
  obtain ⟨c0, A0, cap0, e0, hs0, k0, m0⟩ := cfg_of h0
  have e0 : a0 = _ := e0
  subst e0
  obtain ⟨A1, len1, cap1, rfl⟩ := okWide_slice Tryz.underlying25 (hval 1 25 v1 rfl rfl)
  obtain ⟨A1', cap1', l1, e1, hs1, hok1, k1, m1⟩ := ops_of h1
  cases e1
  obtain ⟨n2, rfl, rfl, rfl, w2⟩ := open_int Tryz.underlying3 (hval 2 3 v2 rfl rfl) h2
  obtain ⟨⟨a3⟩, rfl, _⟩ := okWide_struct Tryz.underlying30 (hval 3 30 v3 rfl rfl)
  obtain ⟨q3, A3, cap3, e3, hs3, k3, m3⟩ := rq_of h3
  have e3 : a3 = _ := e3
  subst e3
  obtain ⟨n4, rfl, rfl, rfl⟩ := open_bool Tryz.underlying4 (hval 4 4 v4 rfl rfl) h4
  obtain ⟨⟨a5⟩, rfl, _⟩ := okWide_struct Tryz.underlying32 (hval 5 32 v5 rfl rfl)
  obtain ⟨b5, s5, t5, x5, e5, k5, m5⟩ := item_of h5
  have e5 : a5 = _ := e5
  subst e5
  refine (refused_top c0 A0 cap0 A1 cap1 l1 n2 q3 A3 cap3 n4 b5 s5 t5 x5 W hs0 k0 m0 hs1 hok1 k1 m1 hs3 k3 m3 k5 m5).mono fun e W' ⟨he, hg⟩ => ?_
  subst he
  exact ⟨_, rfl, post_true hW' rfl rfl rfl (by kernel_rfl) (by kernel_rfl) hg⟩

set_option maxRecDepth 100000 in
theorem lifted (os : Os) (started : os.Started) (H : Type) (enc : TypeId × Value → H) :
    ReturnsInHanded {} Tryz.checked os 3 .any (Rows.modelRefusedSpec.pre6 enc Tryz.prog Tryz.f3 Rows.modelRefusedRow.domain false) (Rows.modelRefusedSpec.post enc Tryz.prog Tryz.f3 false true false false) := by
  refine returnsInHanded_of_change (C := Tryz.checked) own started (by kernel_rfl) Tryz.func3
    (ChangeSpec.witness6 (enc := enc) (C := Tryz.checked) false ⟨#[], #[.agg #[.slice none 0 0, .int .i64 0, .int .i64 0, .int .i64 0, .int .i64 0, .int .i64 0, .int .i64 0, .int .i64 0, .int .i64 0, .int .i64 0, .int .i64 0, .int .i64 0], .slice none 0 0, .int .i64 0, .agg #[.int .i64 0, .int .i64 0, .int .i64 0, .slice none 0 0, .int .i64 0, .string .empty, .int .i64 0, .int .i64 0, .string .empty, .int .i64 0, .int .i64 0], .bool false, .agg #[.bool false, .string .empty, .int .i64 0, .int .i64 0]], []⟩ 12 (by kernel_rfl) (by kernel_rfl) (by kernel_rfl) (by kernel_rfl)) ?_
  intro W base args ds gs before hval0 hW hcnd _
  exact contract H enc W base args ds gs before hval0 hW

theorem over : Rows.modelRefusedRow.holds Tryz.pinned (OpenSpec.ofChange Rows.modelRefusedSpec) :=
  OpenClaim.holds_of_wide 3 Tryz.f3 rfl rfl rfl rfl rfl rfl rfl ⟨rfl, rfl, rfl, rfl, rfl⟩ rfl rfl rfl rfl rfl (by kernel_rfl) Tryz.func3 (by kernel_rfl)
    (of_decide_eq_true (by kernel_rfl)) (by unfold Func.isWrapper; first | (rw [if_pos (by decide +kernel)]; kernel_rfl) | (rw [if_neg (by decide +kernel)]; exact ⟨rfl, rfl⟩))
    (fun os started H enc _ => lifted os started H enc)

theorem proved : Rows.ModelRefusedSaid :=
  over
#print axioms proved
end Go.Proofs.YtaicecnfodhlcaaGreat.modelRefused
