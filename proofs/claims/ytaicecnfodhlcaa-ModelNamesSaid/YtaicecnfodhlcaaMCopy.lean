/- maps.Copy at maps of rows. -/
import Derived.Test.YtaicecnfodhlcaaMLook
set_option linter.unusedVariables false
set_option linter.unusedSimpArgs false
namespace Go.Proofs.Ytaicecnfodhlcaa
open Go.RowKit Go.Deep

/-- What has been copied. -/
def CopyDone (m1 m2 left m' : List (Cell × Value)) : Prop := ∀ p, p ∈ m' ↔ (p ∈ m2 ∧ p.1 ∉ left.map (·.1)) ∨ (p ∈ m1 ∧ (p.1 ∉ m2.map (·.1) ∨ p.1 ∈ left.map (·.1)))
theorem CopyDone.start (m1 m2 : List (Cell × Value)) : CopyDone m1 m2 m2 m1 := fun p => by
  constructor
  · intro h
    by_cases hc : p.1 ∈ m2.map (·.1)
    · exact .inr ⟨h, .inr hc⟩
    · exact .inr ⟨h, .inl hc⟩
  · rintro (⟨h1, h2⟩ | ⟨h, _⟩)
    · exact absurd (List.mem_map.2 ⟨p, h1, rfl⟩) h2
    · exact h
theorem mem_left {left : List (Cell × Value)} {c d : Cell} : c ∈ (left.filter fun q => decide (q.1 ≠ d)).map (·.1) ↔ c ≠ d ∧ c ∈ left.map (·.1) := by
  constructor
  · intro h
    obtain ⟨q, hq, rfl⟩ := List.mem_map.1 h
    have := List.mem_filter.1 hq
    exact ⟨by simpa using this.2, List.mem_map.2 ⟨q, this.1, rfl⟩⟩
  · rintro ⟨h1, h2⟩
    obtain ⟨q, hq, rfl⟩ := List.mem_map.1 h2
    exact List.mem_map.2 ⟨q, List.mem_filter.2 ⟨hq, by simpa using h1⟩, rfl⟩
theorem CopyDone.step {m1 m2 left m' : List (Cell × Value)} (h : CopyDone m1 m2 left m') {c : Cell} {x : Value} (hn : (m2.map (·.1)).Nodup) (hq : (c, x) ∈ m2) (hl : c ∈ left.map (·.1)) : CopyDone m1 m2 (left.filter fun q => decide (q.1 ≠ c)) (mPut m' c x) := by
  intro p
  rw [mem_mPut, h p, mem_left]
  have hcm : c ∈ m2.map (·.1) := List.mem_map.2 ⟨_, hq, rfl⟩
  constructor
  · rintro (rfl | ⟨h1, h2 | ⟨h2, h3⟩⟩)
    · exact .inl ⟨hq, fun h => h.1 rfl⟩
    · exact .inl ⟨h2.1, fun h => h2.2 h.2⟩
    · exact .inr ⟨h2, h3.imp id fun h => ⟨h1, h⟩⟩
  · rintro (⟨h1, h2⟩ | ⟨h1, h2⟩)
    · by_cases hc : p.1 = c
      · have h3 := mGet_some hn hq
        have h4 := mGet_some hn (show (p.1, p.2) ∈ m2 from h1)
        rw [hc, h3] at h4
        exact .inl (by rw [← hc, Option.some.inj h4])
      · exact .inr ⟨hc, .inl ⟨h1, fun h => h2 ⟨hc, h⟩⟩⟩
    · by_cases hc : p.1 = c
      · rcases h2 with h2 | h2
        · exact absurd (by rw [hc]; exact hcm) h2
        · exact absurd hc h2.1
      · exact .inr ⟨hc, .inr ⟨h1, h2.imp id fun h => h.2⟩⟩

set_option maxHeartbeats 4000000 in
set_option maxRecDepth 100000 in
theorem mcopy_any (b1 b2 : Nat) (m1 m2 : List (Cell × Value)) (w : World) (h1 : MapIs cellV w b1 m1) (h2 : MapIs cellV w b2 m2) (hne : b1 ≠ b2) (hv : ∀ p ∈ m2, ∃ a : Ag, p.2 = a.v) :
    Calls Try.prog 31 #[.map (some b1), .map (some b2)] w fun e w' => e = .returned (.tuple #[]) ∧ (∃ m', MapIs cellV w' b1 m' ∧ ∀ p, p ∈ m' ↔ p ∈ m2 ∨ (p ∈ m1 ∧ p.1 ∉ m2.map (·.1))) ∧ Chg [b1] w w' := by
  have hb1 := h1.lt
  have hb2 := h2.lt
  have hnd := h2.nd
  have Hv := Lib.hid hv
  have Hnd := Lib.hid hnd
  clear hv hnd
  go_enter Try.func31, Try.ntmps31
  go_wp2_with (at_range; refine wpList_rangeM rfl _ rfl Try.underlying83 b2 m2 rfl h2 ?_)
  intro w1 hrg hg1 hs1
  have h11 := h1.keep (hg1.block b1 hb1 (fun e => by cases e))
  have hch1 : Chg [b1] w w1 := ⟨hg1.os, hg1.tape, hg1.output, hg1.size, fun i hi _ => hg1.block i hi (fun e => by cases e)⟩
  have hs1a := Nat.le_of_eq hs1.symm
  clear h1 h2 hs1 hg1
  go_wp2_with fail
  go_loopg [] m2.length (fun g wr => ∃ m' left, g = left.length ∧ Ranging cellV wr b2 w.heap.size m2 left ∧ MapIs cellV wr b1 m' ∧ CopyDone m1 m2 left m' ∧ Chg [b1] w wr ∧ w.heap.size + 1 ≤ wr.heap.size)
  case atStart => exact ⟨m1, m2, rfl, hrg, h11, CopyDone.start _ _, hch1, by omega⟩
  case round =>
    obtain ⟨m', left, hg, hrg, hm, hcd, hch, hsz⟩ := hrel
    have Hg := Lib.hid hg
    have Hm := Lib.hid hm
    have Hcd := Lib.hid hcd
    have Hch := Lib.hid hch
    clear hg hm hcd hch
    go_wp2_with (at_next; refine wpList_nextC rfl _ rfl b2 w.heap.size m2 left rfl hrg ?_ ?_)
    · intro h0
      subst h0
      have hfin : ∃ m', MapIs cellV wr b1 m' ∧ ∀ p, p ∈ m' ↔ p ∈ m2 ∨ (p ∈ m1 ∧ p.1 ∉ m2.map (·.1)) := ⟨m', Hm.out, fun p => by have := Hcd.out p; simpa using this⟩
      have Hfin := Lib.hid hfin
      clear hfin
      go_wp2_with fail
      go_end0
      exact ⟨rfl, Hfin.out, Hch.out⟩
    · intro c y w2 hpl hrg2 hgr2 hs2 hen
      have hs2a := Nat.le_of_eq hs2
      have hs2b := Nat.le_of_eq hs2.symm
      clear hs2
      have hym := hrg.sub.subset hpl
      obtain ⟨a, ha⟩ := Hv.out _ hym
      simp only at ha
      subst ha
      have hcl : c ∈ left.map (·.1) := List.mem_map.2 ⟨_, hpl, rfl⟩
      have hstep := Hcd.out.step Hnd.out hym hcl
      have hln : (left.map (·.1)).Nodup := Hnd.out.sublist (List.Sublist.map _ hrg.sub)
      have hlen := (left_perm hln hpl).length_eq
      have hgeq := Hg.out
      have Hmeas := Lib.hid (show (left.filter fun q => decide (q.1 ≠ c)).length < gk from by rw [hgeq]; have : (left.filter fun q => decide (q.1 ≠ c)).length + 1 = left.length := (by simpa using hlen); omega)
      have hlt2 := hrg2.lt
      obtain ⟨xv, xk, xs⟩ := c
      obtain ⟨ac, au, an, ax⟩ := a
      dsimp only at *
      have hb22 : Below w2.heap.size w2 ((w2.alloc (.cells #[.int .i64 xv, .string xk, .int .i64 xs] 46)).alloc (.cells #[.int .i64 ac, .int .i64 au, .int .i64 an, .int .i64 ax] 51)) := ((Below.refl _ _).alloc (Nat.le_refl _) _).alloc (by simp) _
      have hmW := (Hm.out.keep (hgr2.block b1 (by omega) (fun e => absurd (Option.some.inj e) (by omega)))).keep (hb22.block b1 (by omega))
      obtain ⟨w3, hrun, hm3, hg3, hs3⟩ := MapIs.update keyCell Try.underlying83 hmW ⟨xv, xk, xs⟩ (.agg #[.int .i64 ac, .int .i64 au, .int .i64 an, .int .i64 ax])
      have hrun' : (Instr.mapUpdate 83 (.map (some b1)) (.agg #[.int .i64 xv, .string xk, .int .i64 xs]) (.agg #[.int .i64 ac, .int .i64 au, .int .i64 an, .int .i64 ax])).run Try.prog ((w2.alloc (.cells #[.int .i64 xv, .string xk, .int .i64 xs] 46)).alloc (.cells #[.int .i64 ac, .int .i64 au, .int .i64 an, .int .i64 ax] 51)) = .ok () w3 := hrun
      have hrel : ∃ m' left', (left.filter fun q => decide (q.1 ≠ (⟨xv, xk, xs⟩ : Cell))).length = left'.length ∧ Ranging cellV w3 b2 w.heap.size m2 left' ∧ MapIs cellV w3 b1 m' ∧ CopyDone m1 m2 left' m' ∧ Chg [b1] w w3 ∧ w.heap.size + 1 ≤ w3.heap.size := by
        have e2 : ∀ g, g < w2.heap.size → g ≠ b1 → w3.heap[g]? = w2.heap[g]? := fun g hg hn => (hg3.block g (Nat.lt_of_lt_of_le hg hb22.size) (fun e => hn (Option.some.inj e))).trans (hb22.block g hg)
        refine ⟨_, _, rfl, by simpa using hrg2.keep (e2 b2 (by omega) (fun e => hne e.symm)) (e2 w.heap.size (by omega) (by omega)), hm3, hstep, ?_, ?_⟩
        · have hc1 := Hch.out
          refine ⟨?_, ?_, ?_, ?_, ?_⟩
          · exact hg3.os.trans (hb22.os.trans (hgr2.os.trans hc1.os))
          · exact hg3.tape.trans (hb22.tape.trans (hgr2.tape.trans hc1.tape))
          · exact hg3.output.trans (hb22.output.trans (hgr2.output.trans hc1.output))
          · have := hb22.size; have := hg3.size; have := hgr2.size; omega
          · intro i hi hn
            have hn' : i ≠ b1 := by simpa using hn
            exact (e2 i (by omega) hn').trans ((hgr2.block i (by omega) (fun e => absurd (Option.some.inj e) (by omega))).trans (hc1.block i hi hn))
        · have := hb22.size; have := hg3.size; omega
      have Hrel := Lib.hid hrel
      clear hrel hrun hm3 hg3 hs3 hmW hb22 hstep hlen hln hcl hym hpl hrg2 hgr2 hlt2 hgeq hrg
      go_wp2_with fail
      go_roundg (left.filter fun q => decide (q.1 ≠ (⟨xv, xk, xs⟩ : Cell))).length
      case measure => exact Hmeas.out
      case rel => exact Hrel.out
/-- .. by the rows: what was there, and what is copied over it. -/
theorem mcopy_rows (b1 b2 : Nat) (L rs : List Rw) (w : World) (h1 : HasMap w b1 L) (h2 : HasMap w b2 rs) (hne : b1 ≠ b2) (hL : Rise (L.map (·.cell))) (hr : (rs.map (·.cell)).Nodup) :
    Calls Try.prog 31 #[.map (some b1), .map (some b2)] w fun e w' => e = .returned (.tuple #[]) ∧ HasMap w' b1 (putRows L rs) ∧ Chg [b1] w w' := by
  obtain ⟨m1, hm1, hp1⟩ := h1
  obtain ⟨m2, hm2, hp2⟩ := h2
  refine (mcopy_any b1 b2 m1 m2 w hm1 hm2 hne (fun p hp => ?_)).mono ?_
  · obtain ⟨r, _, rfl⟩ := List.mem_map.1 (hp2.mem_iff.1 hp)
    exact ⟨r.agg, rfl⟩
  · rintro e w' ⟨he, ⟨m', hm', hmem⟩, hc⟩
    refine ⟨he, HasMap.of_mem hm' (putRows_rise hL hr).nodup (fun p => ?_), hc⟩
    rw [hmem p, hp2.mem_iff, hp1.mem_iff, (perm_keys hp2).mem_iff]
    constructor
    · rintro (h | ⟨h, hn⟩)
      · obtain ⟨r, hr, rfl⟩ := List.mem_map.1 h
        exact List.mem_map.2 ⟨r, (mem_putRows r).2 (.inl hr), rfl⟩
      · obtain ⟨r, hr, rfl⟩ := List.mem_map.1 h
        exact List.mem_map.2 ⟨r, (mem_putRows r).2 (.inr ⟨hr, hn⟩), rfl⟩
    · intro h
      obtain ⟨r, hr, rfl⟩ := List.mem_map.1 h
      rcases (mem_putRows r).1 hr with h | ⟨h, hn⟩
      · exact .inl (List.mem_map.2 ⟨r, h, rfl⟩)
      · exact .inr ⟨List.mem_map.2 ⟨r, h, rfl⟩, hn⟩
end Go.Proofs.Ytaicecnfodhlcaa
