/- The contract of an operator's Live. -/
import Derived.Test.YtheimbhnckaonaaOper
set_option linter.unusedVariables false
set_option linter.unusedSimpArgs false
namespace Go.Proofs.Ytheimbhnckaonaa
open Go.RowKit

set_option maxHeartbeats 1000000 in
theorem live_any (b : OpB) (O : Op14) (w : World) (h : IsOper w b O) (hmax : O.live.length ≤ 100000000) :
    Calls Try.prog 22 #[.pointer (some ⟨b.bp, 0, none⟩)] w fun e w' => ∃ v, e = .returned v ∧ Own 51 3 cellL w.heap.size w' v O.live ∧ Below w.heap.size w w' := by
  obtain ⟨c0, c1, c2, c3, c4⟩ := h.cells
  obtain ⟨m, hm, hp⟩ := h.live
  have hbr := hm.lt
  have hnd := hm.nd
  have hrise := h.rise
  have hml : m.length ≤ 100000000 := by have := hp.length_eq; simp at this; omega
  generalize O.live = L at *
  have Hp := Lib.hid hp
  clear h hp hmax
  go_enter Try.func22, Try.ntmps22
  go_wp2_with (at_range; refine wpList_rangeM rfl _ rfl Try.underlying90 b.br m rfl hm ?_)
  intro w1 hrg hg1 hs1
  have hb1 : Below w.heap.size w w1 := (Below.refl _ _).grown hg1 (Nat.le_refl _) (fun k hk => by cases hk)
  clear c0 c1 c2 c3 c4 hm hg1
  go_wp2_with fail
  go_loopg [3] m.length (fun g v wr => ∃ done left, g = left.length ∧ Ranging cellV wr b.br w.heap.size m left ∧ Own 51 3 cellL (w.heap.size + 1) wr v done ∧ (done ++ left.map (·.1)).Perm (m.map (·.1)) ∧ Below w.heap.size w wr ∧ w.heap.size + 1 ≤ wr.heap.size)
  case atStart => exact ⟨[], m, rfl, hrg, Own.nil _ _ _ _ _, by simp, hb1, by omega⟩
  case round =>
    obtain ⟨done, left, hg, hrg, hown, hperm, hb, hsz⟩ := hrel
    have Hg := Lib.hid hg
    have Hown := Lib.hid hown
    have Hperm := Lib.hid hperm
    clear hg hown hperm
    obtain ⟨o, cap, rfl, hcap, _, hov, hun⟩ := Hown.out.sl fun _ => rfl
    have hdl : done.length ≤ 100000000 := by have := Hperm.out.length_eq; simp at this; omega
    go_wp2_with (at_next; refine wpList_nextC rfl _ rfl b.br w.heap.size m left rfl hrg ?_ ?_)
    · intro h0
      have hperm' : done.Perm L := by
        have := Hperm.out
        rw [h0] at this
        simp at this
        exact this.trans Hp.out
      have hsc : sortC done = L := sortC_eq hrise hperm'.symm
      have Hsc := Lib.hid hsc
      clear hsc h0 hperm'
      go_wp2_with fail
      rcases Nat.eq_zero_or_pos done.length with hd | hd
      · obtain rfl := List.eq_nil_of_length_eq_zero hd
        refine (sort_none _ _ _ _).mono ?_
        rintro e w' ⟨rfl, hw'⟩
        subst hw'
        go_wp2_with fail
        go_ret
        refine ⟨_, rfl, ?_, hb⟩
        rw [show L = [] from by rw [← Hsc.out]; exact List.eq_nil_of_length_eq_zero (sortC_length [])]
        exact Own.mono (B := w.heap.size + 1) (B' := w.heap.size) Hown.out (by omega)
      · obtain ⟨g, rfl, hg1, hg2⟩ := Hown.out.pos hd
        refine (sort_any g cap done _ _ Hown.out (by omega)).mono ?_
        rintro e w' ⟨rfl, ho', hch⟩
        go_wp2_with fail
        go_ret
        refine ⟨_, rfl, ?_, Below.chain hb hch (by omega) (by simp; omega)⟩
        rw [← Hsc.out]
        exact Own.mono (B := w.heap.size + 1) (B' := w.heap.size) ho' (by omega)
    · intro c x w2 hpl hrg2 hgr2 hs2 hen
      have hs2a := Nat.le_of_eq hs2
      have hs2b := Nat.le_of_eq hs2.symm
      clear hs2
      have hown2 := (Hown.out.grown hgr2 (by omega)).alloc (.cells #[.int .i64 c.v, .string c.k, .int .i64 c.s] 51)
      have hown3 := hown2.alloc (.cells #[.int .i64 c.v, .string c.k, .int .i64 c.s] 51)
      have hb2 : Below w.heap.size w w2 := hb.grown hgr2 (by omega) (fun k hk => by cases hk; exact Nat.le_refl _)
      have Hown3 := Lib.hid hown3
      clear hown2 hown3
      go_wp2_with (at_builtin; (refine wpList_app st_cell rfl _ _ rfl cellL (fun _ => rfl) cells1_cell (w.heap.size + 1) _ done rfl Hown3.out (some ⟨w2.heap.size + 1, 0, none⟩) 1 1 [c] rfl rfl ?c1 ?c2 ?c3 ?c4 ?_))
      case c1 => have h9 := sl_new (sz := 3) (enc := cellL) c (w2.alloc (.cells #[.int .i64 c.v, .string c.k, .int .i64 c.s] 51)) 51 (cs := #[.int .i64 c.v, .string c.k, .int .i64 c.s]) rfl; simpa using h9
      case c2 => simp; omega
      case c3 => decide
      case c4 => simp; omega
      intro v' w3 hown' hgr _
      have hb3 : Below w.heap.size w w3 := ((hb2.alloc (by omega) _).alloc (by simp; omega) _).grown hgr (by simp; omega) (fun k hk => by have := (Hown3.out.ge hk).1; omega)
      have hz3 : w2.heap.size + 2 ≤ w3.heap.size := by have := hgr.size; simp at this; omega
      have hlt2 := hrg2.lt
      have hov' : ∀ k, some k = Value.ownBlock (.slice o done.length cap) → w.heap.size + 1 ≤ k := fun k hk => (Hown3.out.ge hk.symm).1
      have hrg3 : Ranging cellV w3 b.br w.heap.size m (left.filter fun q => !decide (q.1 = c)) := by
        refine hrg2.keep ?_ ?_
        · rw [hgr.block _ (by simp; omega) (fun e => by have := hov' _ e; omega), blk_old (by simp; omega), blk_old (by omega)]
        · rw [hgr.block _ (by simp; omega) (fun e => by have := hov' _ e; omega), blk_old (by simp; omega), blk_old (by omega)]
      have hln : (left.map (·.1)).Nodup := hnd.sublist (List.Sublist.map _ hrg.sub)
      have hlp := left_perm hln hpl
      simp only [ne_eq, decide_not] at hlp
      go_wp2_with fail
      go_roundg (left.filter fun q => !decide (q.1 = c)).length
      case measure =>
        have := hlp.length_eq
        have := Hg.out
        simp at *
        omega
      case rel =>
        refine ⟨done ++ [c], _, rfl, hrg3, hown', ?_, hb3, by omega⟩
        rw [List.append_assoc]
        exact (List.Perm.append_left done hlp).trans Hperm.out
end Go.Proofs.Ytheimbhnckaonaa
