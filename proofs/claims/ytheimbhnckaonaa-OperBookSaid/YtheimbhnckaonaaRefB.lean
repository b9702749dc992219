/- The document's operator in memory; contracts of its inner functions. -/
import Derived.Test.YtheimbhnckaonaaRefA
set_option linter.unusedVariables false
set_option linter.unusedSimpArgs false
namespace Go.Proofs.Ytheimbhnckaonaa
open Go.RowKit

theorem sign_any (q : Bool) (w : World) : Calls Try.prog 107 #[.bool q] w fun e w' => e = .returned (.int .i64 (if q then -1 else 1)) ∧ w = w' := by
  cases q
  · go_enter Try.func107, Try.ntmps107
    go_wp2
    go_ret
    exact ⟨rfl, rfl⟩
  · go_enter Try.func107, Try.ntmps107
    go_wp2
    go_ret
    exact ⟨rfl, rfl⟩

set_option maxHeartbeats 400000 in
theorem refWrong_any (k : ByteArray) (t : Int) (w : World) : Calls Try.prog 64 #[.string k, .int .i64 t] w fun e w' => e = .returned (.int .i64 (if keyOk k = false then 21 else if t < -1152921504606846976 ∨ 1152921504606846976 < t then 22 else 0)) ∧ w = w' := by
  have hk : keyOk k = decide (1 ≤ k.size ∧ k.size ≤ 32) := rfl
  by_cases hs : 1 ≤ k.size ∧ k.size ≤ 32
  · have hk' : keyOk k = true := by rw [hk]; simpa using hs
    by_cases ht : t < -1152921504606846976 ∨ 1152921504606846976 < t
    · rw [if_neg (by simp [hk']), if_pos ht]
      obtain ⟨h1, h2⟩ := hs
      clear hk hk'
      rcases ht with ht | ht
      · go_enter Try.func64, Try.ntmps64
        go_wp2_with fail
        go_ret
        exact ⟨rfl, rfl⟩
      · have ht' : ¬ t < -1152921504606846976 := by omega
        go_enter Try.func64, Try.ntmps64
        go_wp2_with fail
        go_ret
        exact ⟨rfl, rfl⟩
    · rw [if_neg (by simp [hk']), if_neg ht]
      have ht1 : ¬ t < -1152921504606846976 := by omega
      have ht2 : ¬ 1152921504606846976 < t := by omega
      obtain ⟨h1, h2⟩ := hs
      clear hk hk' ht
      go_enter Try.func64, Try.ntmps64
      go_wp2_with fail
      go_ret
      exact ⟨rfl, rfl⟩
  · have hk' : keyOk k = false := by rw [hk]; simpa using hs
    rw [if_pos hk']
    clear hk hk'
    by_cases h0 : k.size < 1
    · have hd : (k.size : Int) < 1 := by omega
      clear hs h0
      go_enter Try.func64, Try.ntmps64
      go_wp2_with fail
      go_ret
      exact ⟨rfl, rfl⟩
    · have h2 : 32 < k.size := by omega
      have h1 : 1 ≤ k.size := by omega
      clear hs h0
      go_enter Try.func64, Try.ntmps64
      go_wp2_with fail
      go_ret
      exact ⟨rfl, rfl⟩

theorem cb_less : ∀ l m : List UInt8, l ≠ m → Lib.compareBytes l m = if Op.bytesLess l m then -1 else 1
  | [], [], h => absurd rfl h
  | [], _ :: _, _ => by simp [Lib.compareBytes, Op.bytesLess]
  | _ :: _, [], _ => by simp [Lib.compareBytes, Op.bytesLess]
  | a :: x, b :: y, h => by
    unfold Lib.compareBytes Op.bytesLess
    by_cases h1 : a < b
    · simp [h1]
    · by_cases h2 : b < a
      · have h3 : ¬ a = b := by rintro rfl; exact h1 h2
        simp [h1, h2, h3]
      · have h3 : a = b := UInt8.le_antisymm (UInt8.not_lt.1 h2) (UInt8.not_lt.1 h1)
        subst h3
        rw [if_neg h1, if_neg h1, cb_less x y (by rintro rfl; exact h rfl)]
        simp [h1]

set_option maxHeartbeats 1000000 in
theorem refCompare_any (a1 : Int) (a2 : ByteArray) (a3 : Int) (b1 : Int) (b2 : ByteArray) (b3 : Int) (w : World) :
    Calls Try.prog 94 #[.agg #[.int .i64 a1, .string a2, .int .i64 a3], .agg #[.int .i64 b1, .string b2, .int .i64 b3]] w fun e w' => e = .returned (.int .i64 (ccmp ⟨a1, a2, a3⟩ ⟨b1, b2, b3⟩)) ∧ Below w.heap.size w w' := by
  rw [show ccmp ⟨a1, a2, a3⟩ ⟨b1, b2, b3⟩ = or3 (icmp a1 b1) (bcmp a2 b2) (icmp a3 b3) from rfl]
  have hi : ∀ x y : Int, x ≠ y → icmp x y = if decide (x < y) then -1 else 1 := by
    intro x y h; unfold icmp
    by_cases h1 : x < y
    · simp [h1]
    · have : y < x := by omega
      simp [h1, this]
  have hi0 : ∀ x : Int, icmp x x = 0 := by intro x; unfold icmp; simp
  have hq : ∀ q : Bool, ¬ (if q = true then (-1 : Int) else 1) = 0 := by intro q; cases q <;> simp
  have hbb : Below w.heap.size w ((w.alloc (.cells #[.int .i64 a1, .string a2, .int .i64 a3] 51)).alloc (.cells #[.int .i64 b1, .string b2, .int .i64 b3] 51)) := ((Below.refl _ _).alloc (Nat.le_refl _) _).alloc (by simp) _
  have Hbb := Lib.hid hbb
  clear hbb
  by_cases h1 : a1 = b1
  · subst h1
    have g1 : (a1 != a1) = false := by simp
    rw [hi0]
    by_cases h2 : a2 = b2
    · subst h2
      have g2 : (a2.toList == a2.toList) = true := by simp
      rw [show bcmp a2 a2 = 0 from cb_self _]
      by_cases h3 : a3 = b3
      · subst h3
        have g3 : (a3 != a3) = false := by simp
        rw [hi0]
        clear hi hi0 hq
        go_enter Try.func94, Try.ntmps94
        go_wp2_with fail
        go_ret
        exact ⟨rfl, Hbb.out⟩
      · have g3 : (a3 != b3) = true := by simp [h3]
        rw [show or3 0 0 (icmp a3 b3) = if decide (a3 < b3) then -1 else 1 from by rw [hi _ _ h3]; rfl]
        by_cases h : a3 < b3
        · have hs := fun W => sign_any true W
          rw [show decide (a3 < b3) = true from by simpa using h]
          clear hi hi0 hq h3
          go_enter Try.func94, Try.ntmps94
          go_wp2_with (go_at_call 107; refine (hs _).mono ?_; rintro e w' ⟨rfl, rfl⟩)
          go_ret
          exact ⟨rfl, Hbb.out⟩
        · have hs := fun W => sign_any false W
          rw [show decide (a3 < b3) = false from by simpa using h]
          clear hi hi0 hq h3
          go_enter Try.func94, Try.ntmps94
          go_wp2_with (go_at_call 107; refine (hs _).mono ?_; rintro e w' ⟨rfl, rfl⟩)
          go_ret
          exact ⟨rfl, Hbb.out⟩
    · have h2' : a2.toList ≠ b2.toList := by
        intro h; apply h2
        rw [ByteArray.toList_eq, ByteArray.toList_eq] at h
        cases a2; cases b2; congr 1
        exact Array.toList_inj.1 h
      have g2 : (a2.toList == b2.toList) = false := by simpa using h2'
      rw [show or3 0 (bcmp a2 b2) (icmp a3 b3) = if Op.bytesLess a2.toList b2.toList then -1 else 1 from by
        unfold bcmp; rw [← ByteArray.toList_eq, ← ByteArray.toList_eq, cb_less _ _ h2']; unfold or3; rw [if_pos rfl, if_neg (hq _)]]
      have hs := fun W => sign_any (Op.bytesLess a2.toList b2.toList) W
      clear hi hi0 hq h2'
      go_enter Try.func94, Try.ntmps94
      go_wp2_with (go_at_call 107; refine (hs _).mono ?_; rintro e w' ⟨rfl, rfl⟩)
      all_goals (go_ret; first | exact ⟨rfl, Hbb.out⟩ | (exfalso; omega))
  · have g1 : (a1 != b1) = true := by simp [h1]
    rw [show or3 (icmp a1 b1) (bcmp a2 b2) (icmp a3 b3) = if decide (a1 < b1) then -1 else 1 from by rw [hi _ _ h1]; unfold or3; rw [if_neg (hq _)]]
    by_cases h : a1 < b1
    · have hs := fun W => sign_any true W
      rw [show decide (a1 < b1) = true from by simpa using h]
      clear hi hi0 hq h1
      go_enter Try.func94, Try.ntmps94
      go_wp2_with (go_at_call 107; refine (hs _).mono ?_; rintro e w' ⟨rfl, rfl⟩)
      go_ret
      exact ⟨rfl, Hbb.out⟩
    · have hs := fun W => sign_any false W
      rw [show decide (a1 < b1) = false from by simpa using h]
      clear hi hi0 hq h1
      go_enter Try.func94, Try.ntmps94
      go_wp2_with (go_at_call 107; refine (hs _).mono ?_; rintro e w' ⟨rfl, rfl⟩)
      go_ret
      exact ⟨rfl, Hbb.out⟩

/-- Where a document's operator lies: its struct, its marks with their room; its views. -/
structure RefB where
  rp : Nat
  rl : Nat
  mcap : Nat
  v : Value
  /-- blocks that its cells never lie in -/
  F : List Nat

structure IsRef (w : World) (b : RefB) (O : Op14) : Prop where
  obj : ∃ l, w.heap[b.rp]? = some (.cells #[b.v, .slice (some ⟨b.rl, 0, none⟩) O.ms.length b.mcap, l] 42 (0, 0)) ∧ Own 51 3 cellL 0 w l O.live
  marks : Own 2 1 i64L 0 w (.slice (some ⟨b.rl, 0, none⟩) O.ms.length b.mcap) O.ms
  views : Own 49 3 viewL 0 w b.v O.vs
  vlo : 1 ≤ O.vs.length
  vhi : O.vs.length ≤ 4
  vok : ∀ v ∈ O.vs, v.ok = true
  mlo : 1 ≤ O.ms.length
  mhi : O.ms.length ≤ 8
  rise : Rise O.live
  may : ∀ c ∈ O.live, cellOk O.vs c
  flt : ∀ g ∈ b.F, g < w.heap.size
  free : ∀ (cs : Array Value) t f l, w.heap[b.rp]? = some (.cells cs t f) → cs[2]? = some l → ∀ g ∈ b.F, l.ownBlock ≠ some g

theorem IsRef.lt {w : World} {b : RefB} {O : Op14} (h : IsRef w b O) : b.rp < w.heap.size ∧ b.rl < w.heap.size := by
  obtain ⟨l, hl, _⟩ := h.obj
  exact ⟨lt_of_block hl, (h.marks.ge (g := b.rl) rfl).2⟩
theorem IsRef.below {w w' : World} {b : RefB} {O : Op14} (h : IsRef w b O) (k : Below w.heap.size w w') : IsRef w' b O where
  obj := by
    obtain ⟨l, hl, ho⟩ := h.obj
    exact ⟨l, (k.block _ (lt_of_block hl)).trans hl, ho.below k⟩
  marks := h.marks.below k
  views := h.views.below k
  vlo := h.vlo
  vhi := h.vhi
  vok := h.vok
  mlo := h.mlo
  mhi := h.mhi
  rise := h.rise
  may := h.may
  flt := fun g hg => Nat.lt_of_lt_of_le (h.flt g hg) k.size
  free := fun cs t f l e => h.free cs t f l ((k.block _ h.lt.1).symm.trans e)
theorem IsRef.sl {w : World} {b : RefB} {O : Op14} (h : IsRef w b O) : ∃ av vcap la lcap, b.v = .slice av O.vs.length vcap ∧ O.vs.length ≤ vcap ∧ Sl 3 viewL w av O.vs ∧ Sl 3 cellL w la O.live ∧ Sl 1 i64L w (some ⟨b.rl, 0, none⟩) O.ms ∧ O.ms.length ≤ b.mcap ∧ O.live.length ≤ lcap ∧
    w.cell? ⟨b.rp, 0, none⟩ = some (.slice av O.vs.length vcap) ∧ w.cell? ⟨b.rp, 1, none⟩ = some (.slice (some ⟨b.rl, 0, none⟩) O.ms.length b.mcap) ∧ w.cell? ⟨b.rp, 2, none⟩ = some (.slice la O.live.length lcap) := by
  obtain ⟨l, hl, ho⟩ := h.obj
  obtain ⟨la, lcap, rfl, hlc, hls, _, _⟩ := ho.sl fun _ => rfl
  obtain ⟨av, vcap, e, hvc, hvs, _, _⟩ := h.views.sl fun _ => rfl
  obtain ⟨_, _, e2, hmc, hms, _, _⟩ := h.marks.sl fun _ => rfl
  cases e2
  rw [e] at hl
  refine ⟨av, vcap, la, lcap, e, hvc, hvs, hls, hms, hmc, hlc, ?_, ?_, ?_⟩ <;> simp [World.cell?, hl]

set_option maxHeartbeats 400000 in
theorem refLeast_any (b : RefB) (O : Op14) (w : World) (h : IsRef w b O) : Calls Try.prog 24 #[.pointer (some ⟨b.rp, 0, none⟩)] w fun e w' => e = .returned (.int .i64 (leastOf O.ms)) ∧ w = w' := by
  obtain ⟨av, vcap, la, lcap, _, _, _, _, hs, hmc, _, _, c1, _⟩ := h.sl
  have h0 := h.mlo
  have h1 := h.mhi
  clear h
  obtain ⟨vs, xs, L⟩ := O
  simp only at *
  obtain ⟨b', off, e, hb, hc0⟩ := hs.at_i64 (i := 0) (by omega)
  cases e
  have hx0 : leastOf (xs.take 1) = xs[0] := by
    obtain ⟨x, r, rfl⟩ := List.exists_cons_of_length_pos h0
    rfl
  simp only [Nat.add_zero] at hc0
  go_enter Try.func24, Try.ntmps24
  go_wp2_with fail
  go_loopg [3, 4] (xs.length - 1) (fun g m i wr => ∃ k : Nat, k + g = xs.length ∧ 1 ≤ k ∧ i = .int .i64 k ∧ m = .int .i64 (leastOf (xs.take k)) ∧ w = wr)
  case atStart => exact ⟨1, by omega, by omega, rfl, by rw [hx0], rfl⟩
  case round =>
    obtain ⟨k, hk, h1k, rfl, rfl, rfl⟩ := hrel
    have Hk := Lib.hid hk
    clear hk
    by_cases hlt : k < xs.length
    · obtain ⟨b', off', e, _, hck⟩ := hs.at_i64 (i := k) hlt
      cases e
      rw [Nat.zero_add] at hck
      have hl := leastOf_take h1k hlt
      have Hl := Lib.hid hl
      clear hl
      go_wp2_with fail
      all_goals
        go_roundg (gk - 1)
        case measure => have := Hk.out; omega
        case rel =>
          refine ⟨k + 1, by have := Hk.out; omega, by omega, by go_num, ?_, rfl⟩
          rw [Hl.out]
          first | (rw [Int.min_eq_right (by omega)]; done) | (rw [Int.min_eq_left (by omega)]; done)
    · obtain rfl : k = xs.length := by have := Hk.out; omega
      go_wp2_with fail
      go_ret
      exact ⟨ret_int (by rw [List.take_length]), rfl⟩

set_option maxHeartbeats 1000000 in
theorem refClosed_any (b : RefB) (O : Op14) (x : Int) (y : ByteArray) (z : Int) (w : World) (h : IsRef w b O) (hv : ∃ (i : Nat) (hi : i < O.vs.length), x = i) (hz1 : -2305843009213693952 ≤ z) (hz2 : z ≤ 2305843009213693952) :
    Calls Try.prog 63 #[.pointer (some ⟨b.rp, 0, none⟩), .agg #[.int .i64 x, .string y, .int .i64 z]] w fun e w' => e = .returned (.bool (shutC O ⟨x, y, z⟩)) ∧ Below w.heap.size w w' := by
  obtain ⟨i, hi, rfl⟩ := hv
  have hle := fun W hW => refLeast_any b O W hW
  have hop : ∀ W, Below w.heap.size w W → IsRef W b O := fun W hW => h.below hW
  obtain ⟨av, vcap, la, lcap, _, hvc, hvs, _, _, _, _, c0, _, _⟩ := h.sl
  obtain ⟨vb, vo, rfl, hvb, g0, g1, g2⟩ := hvs.at3 hi rfl
  have hok := (View.ok_iff _).1 (h.vok _ (List.getElem_mem hi))
  have hlt := h.lt
  have hsh : shutC O ⟨i, y, z⟩ = decide (z + O.vs[i].size + O.vs[i].late ≤ leastOf O.ms) := by
    unfold shutC View.shut
    simp [hi]
  rw [hsh]
  clear h hvs hsh
  obtain ⟨vs, ms, L⟩ := O
  simp only at *
  generalize vs[i] = V at *
  obtain ⟨vx, vy, vz⟩ := V
  simp only at *
  go_enter Try.func63, Try.ntmps63
  go_wp2_with fail
  go_region
  have hb2 : Below w.heap.size w (((w.alloc (.cells #[.int .i64 i, .string y, .int .i64 z] 51)).alloc (.cells #[.int .i64 vx, .int .i64 vy, .int .i64 vz] 49)).drew).drew := ((((Below.refl _ _).alloc (Nat.le_refl _) _).alloc (by simp) _).drew).drew
  have Hl := Lib.hid (hop _ hb2)
  have Hb2 := Lib.hid hb2
  clear hop hb2 g0 g1 g2
  go_wp2_with fail
  go_region_held3 (fun w' => w'.cell? ⟨w.heap.size, 2, none⟩ = some (.int .i64 z) ∧ w'.cell? ⟨w.heap.size + 1, 0, none⟩ = some (.int .i64 vx) ∧ w'.cell? ⟨w.heap.size + 1, 2, none⟩ = some (.int .i64 vz)) (first | assumption | go_keep)
    (first | (go_at_call 24; refine (hle _ Hl.out).mono ?_; rintro e w' ⟨rfl, rfl⟩))
  go_wp2_with fail
  go_ret
  refine ⟨?_, Hb2.out⟩
  have e1 : IntKind.i64.wrap (z + vx) = z + vx := by rw [IntKind.wrap_i64]; omega
  have e2 : IntKind.i64.wrap (z + vx + vz) = z + vx + vz := by rw [IntKind.wrap_i64]; omega
  exact ret_bool (by rw [e1, e2])
end Go.Proofs.Ytheimbhnckaonaa
