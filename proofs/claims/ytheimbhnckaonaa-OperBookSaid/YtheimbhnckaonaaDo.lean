/- The contract of the law's do: one step that changes something. -/
import Derived.Test.YtheimbhnckaonaaStepD
set_option linter.unusedVariables false
set_option linter.unusedSimpArgs false
namespace Go.Proofs.Ytheimbhnckaonaa
open Go.RowKit

/-- What a step leaves, and which cells it tells. -/
def doO (O : Op14) (kind source : Int) (key : ByteArray) (t v : Int) (cs : List Cell) : Op14 :=
  if kind = 1 then (if takeE O key t = 0 ∧ 0 < v then wroteO O (takeX O key t) else O) else if kind = 2 then markO O source t else if kind = 3 then wroteO O (cs.take 300) else O
def doX (O : Op14) (kind source t : Int) : List Cell := if kind = 2 then markX O source t else []

theorem doO_len (O : Op14) (kind source : Int) (key : ByteArray) (t v : Int) (cs : List Cell) (h1 : O.vs.length ≤ 4) (hv : ∀ v ∈ O.vs, v.ok = true) : (doO O kind source key t v cs).live.length ≤ O.live.length + 300 := by
  have h2 := takeX_len h1 hv key t
  have h3 := wroteO_len O (takeX O key t)
  have h4 := wroteO_len O (cs.take 300)
  have h5 : (cs.take 300).length ≤ 300 := by rw [List.length_take]; omega
  have h6 := markO_len O source t
  unfold doO
  split
  · split <;> omega
  · split
    · omega
    · split <;> omega

set_option maxRecDepth 100000 in
set_option maxHeartbeats 4000000 in
theorem do_take (b : OpB) (O : Op14) (source : Int) (key : ByteArray) (t v : Int) (c : Value) (w : World) (h : IsOper w b O) (hmax : O.live.length ≤ 10000000) :
    Calls Try.prog 25 #[.pointer (some ⟨b.bp, 0, none⟩), stepV 1 source key t v c] w fun e w' => e = .returned (.slice none 0 0) ∧ IsOper w' b (if takeE O key t = 0 ∧ 0 < v then wroteO O (takeX O key t) else O) ∧ Chg [b.bl, b.br] w w' := by
  have hX : (takeX O key t).length ≤ 256 := takeX_len h.vhi h.vok key t
  have ht1 := fun W hW => take_all b O key t W hW
  have hw1 := fun a cap W hW hs hl => wrote_all b O a cap (takeX O key t) W hW hs hl
  have H := Lib.hid h
  unfold stepV
  clear h
  generalize hXe : takeX O key t = X at *
  generalize takeL O key t = lt at *
  generalize takeE O key t = er at *
  clear hXe
  by_cases he : er = 0
  · subst he
    by_cases hv : 0 < v
    · rw [if_pos ⟨rfl, hv⟩]
      go_enter Try.func25, Try.ntmps25
      have hbw : Below w.heap.size w (w.alloc (.cells #[.int .i64 1, .int .i64 source, .string key, .int .i64 t, .int .i64 v, c] 37)) := (Below.refl _ _).alloc (Nat.le_refl _) _
      have B0 := Lib.hid (H.out.below hbw)
      go_wp2_with fail
      refine (ht1 _ B0.out).mono ?_
      rintro e w1 ⟨v1, rfl, hx1, hb1⟩
      have hz1 := hb1.size
      simp at hz1
      have f4 : w1.cell? ⟨w.heap.size, 4, none⟩ = some (.int .i64 v) := by rw [hb1.cell (by simp)]; go_simp
      have B1 := Lib.hid (B0.out.below hb1)
      obtain ⟨o1, cap1, rfl, hc1, hs1, _, hu1⟩ := hx1.sl fun _ => rfl
      have hbw1 := Lib.hid (hbw.trans (hb1.mono (by simp)))
      have hw1' := hw1 o1 cap1 w1 B1.out hs1 (by omega)
      clear hx1 ht1 hw1
      go_wp2_with fail
      refine hw1'.mono ?_
      rintro e w4 ⟨rfl, hop4, hch4⟩
      have HOP := Lib.hid hop4
      clear hop4
      go_wp2_with fail
      go_ret
      exact ⟨rfl, HOP.out, ((Chg.of_below hbw1.out).mono (by simp)).trans (hch4.mono (by simp))⟩
    · rw [if_neg (by omega)]
      go_enter Try.func25, Try.ntmps25
      have hbw : Below w.heap.size w (w.alloc (.cells #[.int .i64 1, .int .i64 source, .string key, .int .i64 t, .int .i64 v, c] 37)) := (Below.refl _ _).alloc (Nat.le_refl _) _
      have B0 := Lib.hid (H.out.below hbw)
      go_wp2_with fail
      refine (ht1 _ B0.out).mono ?_
      rintro e w1 ⟨v1, rfl, hx1, hb1⟩
      have hz1 := hb1.size
      simp at hz1
      have f4 : w1.cell? ⟨w.heap.size, 4, none⟩ = some (.int .i64 v) := by rw [hb1.cell (by simp)]; go_simp
      have B1 := Lib.hid (B0.out.below hb1)
      obtain ⟨o1, cap1, rfl, hc1, hs1, _, hu1⟩ := hx1.sl fun _ => rfl
      have hbw1 := Lib.hid (hbw.trans (hb1.mono (by simp)))
      clear hx1 ht1 hw1
      go_wp2_with fail
      go_ret
      exact ⟨rfl, B1.out, (Chg.of_below hbw1.out).mono (by simp)⟩
  · rw [if_neg (by omega)]
    have he0 : (er == 0) = false := by simpa using he
    go_enter Try.func25, Try.ntmps25
    have hbw : Below w.heap.size w (w.alloc (.cells #[.int .i64 1, .int .i64 source, .string key, .int .i64 t, .int .i64 v, c] 37)) := (Below.refl _ _).alloc (Nat.le_refl _) _
    have B0 := Lib.hid (H.out.below hbw)
    go_wp2_with fail
    refine (ht1 _ B0.out).mono ?_
    rintro e w1 ⟨v1, rfl, hx1, hb1⟩
    have hz1 := hb1.size
    simp at hz1
    have f4 : w1.cell? ⟨w.heap.size, 4, none⟩ = some (.int .i64 v) := by rw [hb1.cell (by simp)]; go_simp
    have B1 := Lib.hid (B0.out.below hb1)
    obtain ⟨o1, cap1, rfl, hc1, hs1, _, hu1⟩ := hx1.sl fun _ => rfl
    have hbw1 := Lib.hid (hbw.trans (hb1.mono (by simp)))
    clear hx1 ht1 hw1
    go_wp2_with fail
    go_ret
    exact ⟨rfl, B1.out, (Chg.of_below hbw1.out).mono (by simp)⟩

set_option maxRecDepth 100000 in
set_option maxHeartbeats 4000000 in
theorem do_mark (b : OpB) (O : Op14) (source : Int) (key : ByteArray) (t v : Int) (c : Value) (w : World) (h : IsOper w b O) (hmax : O.live.length ≤ 10000000) :
    Calls Try.prog 25 #[.pointer (some ⟨b.bp, 0, none⟩), stepV 2 source key t v c] w fun e w' => ∃ x, e = .returned x ∧ Own 51 3 cellL w.heap.size w' x (markX O source t) ∧ IsOper w' b (markO O source t) ∧ Chg [b.bl, b.br] w w' := by
  have ht1 := fun W hW => mark_all b O source t W hW (by omega)
  have H := Lib.hid h
  unfold stepV
  clear h
  generalize markX O source t = X at *
  generalize markO O source t = O1 at *
  generalize markE O source t = er at *
  go_enter Try.func25, Try.ntmps25
  have hbw : Below w.heap.size w (w.alloc (.cells #[.int .i64 2, .int .i64 source, .string key, .int .i64 t, .int .i64 v, c] 37)) := (Below.refl _ _).alloc (Nat.le_refl _) _
  have B0 := Lib.hid (H.out.below hbw)
  go_wp2_with fail
  refine (ht1 _ B0.out).mono ?_
  rintro e w1 ⟨v1, rfl, hx1, hop1, hch1⟩
  obtain ⟨o1, cap1, rfl, hc1, hs1, hov1, hu1⟩ := hx1.sl fun _ => rfl
  have Hx := Lib.hid (hx1.mono (B' := w.heap.size) (by simp))
  have HOP := Lib.hid hop1
  clear hx1 hs1 hop1 ht1
  go_wp2_with fail
  go_ret
  exact ⟨_, rfl, Hx.out, HOP.out, ((Chg.of_below hbw).mono (by simp)).trans hch1⟩

set_option maxRecDepth 100000 in
set_option maxHeartbeats 4000000 in
theorem do_wrote (b : OpB) (O : Op14) (source : Int) (key : ByteArray) (t v : Int) (A : Option Addr) (cap : Nat) (cs : List Cell) (w : World) (h : IsOper w b O) (hs : Sl 3 cellL w A cs) (hc : cs.length ≤ cap) (hmax : O.live.length ≤ 10000000) :
    Calls Try.prog 25 #[.pointer (some ⟨b.bp, 0, none⟩), stepV 3 source key t v (.slice A cs.length cap)] w fun e w' => e = .returned (.slice none 0 0) ∧ IsOper w' b (wroteO O (cs.take 300)) ∧ Chg [b.bl, b.br] w w' := by
  have hcut := fun W => cut_any A cap cs W hc
  have hX : (cs.take 300).length ≤ 300 := by rw [List.length_take]; omega
  have hsX := hs.take 300
  have H := Lib.hid h
  unfold stepV
  clear h hs
  generalize cs.take 300 = X at *
  go_enter Try.func25, Try.ntmps25
  have hbw : Below w.heap.size w (w.alloc (.cells #[.int .i64 3, .int .i64 source, .string key, .int .i64 t, .int .i64 v, .slice A cs.length cap] 37)) := (Below.refl _ _).alloc (Nat.le_refl _) _
  have hw1 := wrote_all b O A cap X _ (H.out.below hbw) (hsX.below hbw) (by omega)
  go_wp2_with (go_at_call 51; refine (hcut _).mono ?_; rintro e w' ⟨rfl, rfl⟩)
  refine hw1.mono ?_
  rintro e w2 ⟨rfl, hop2, hch2⟩
  have HOP := Lib.hid hop2
  clear hop2
  go_wp2_with fail
  go_ret
  exact ⟨rfl, HOP.out, ((Chg.of_below hbw).mono (by simp)).trans (hch2.mono (by simp))⟩

set_option maxHeartbeats 4000000 in
theorem do_other (b : OpB) (O : Op14) (kind source : Int) (key : ByteArray) (t v : Int) (c : Value) (w : World) (h : IsOper w b O) (h1 : ¬ kind = 1) (h2 : ¬ kind = 2) (h3 : ¬ kind = 3) :
    Calls Try.prog 25 #[.pointer (some ⟨b.bp, 0, none⟩), stepV kind source key t v c] w fun e w' => e = .returned (.slice none 0 0) ∧ IsOper w' b O ∧ Chg [b.bl, b.br] w w' := by
  have H := Lib.hid h
  unfold stepV
  clear h
  have g1 : (kind == 1) = false := by simpa using h1
  have g2 : (kind == 2) = false := by simpa using h2
  have g3 : (kind == 3) = false := by simpa using h3
  go_enter Try.func25, Try.ntmps25
  have hbw : Below w.heap.size w (w.alloc (.cells #[.int .i64 kind, .int .i64 source, .string key, .int .i64 t, .int .i64 v, c] 37)) := (Below.refl _ _).alloc (Nat.le_refl _) _
  go_wp2_with fail
  go_ret
  exact ⟨rfl, H.out.below hbw, (Chg.of_below hbw).mono (by simp)⟩

theorem do_any (b : OpB) (O : Op14) (kind source : Int) (key : ByteArray) (t v : Int) (A : Option Addr) (cap : Nat) (cs : List Cell) (w : World) (h : IsOper w b O) (hs : Sl 3 cellL w A cs) (hc : cs.length ≤ cap) (hmax : O.live.length ≤ 10000000) :
    Calls Try.prog 25 #[.pointer (some ⟨b.bp, 0, none⟩), stepV kind source key t v (.slice A cs.length cap)] w fun e w' => ∃ x, e = .returned x ∧ Own 51 3 cellL w.heap.size w' x (doX O kind source t) ∧ IsOper w' b (doO O kind source key t v cs) ∧ Chg [b.bl, b.br] w w' := by
  unfold doX doO
  by_cases h1 : kind = 1
  · subst h1
    rw [if_neg (by decide), if_pos rfl]
    exact (do_take b O source key t v _ w h hmax).mono fun e w' ⟨he, ho, hc⟩ => ⟨_, he, Own.nil _ _ _ _ _, ho, hc⟩
  · rw [if_neg h1]
    by_cases h2 : kind = 2
    · subst h2
      rw [if_pos rfl, if_pos rfl]
      exact do_mark b O source key t v _ w h hmax
    · rw [if_neg h2, if_neg h2]
      by_cases h3 : kind = 3
      · subst h3
        rw [if_pos rfl]
        exact (do_wrote b O source key t v A cap cs w h hs hc hmax).mono fun e w' ⟨he, ho, hc⟩ => ⟨_, he, Own.nil _ _ _ _ _, ho, hc⟩
      · rw [if_neg h3]
        exact (do_other b O kind source key t v _ w h h1 h2 h3).mono fun e w' ⟨he, ho, hc⟩ => ⟨_, he, Own.nil _ _ _ _ _, ho, hc⟩
end Go.Proofs.Ytheimbhnckaonaa
