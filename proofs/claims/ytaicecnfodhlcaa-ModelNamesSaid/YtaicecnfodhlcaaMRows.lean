/- rows: those of a map's rows that a function takes, in order. -/
import Derived.Test.YtaicecnfodhlcaaMSort
set_option linter.unusedVariables false
set_option linter.unusedSimpArgs false
namespace Go.Proofs.Ytaicecnfodhlcaa
open Go.RowKit Go.Deep

abbrev rowP (r : Rw) : Cell × Value := (r.cell, r.agg.v)
def unAg : Value → Ag
  | .agg #[.int _ a, .int _ b, .int _ c, .int _ d] => ⟨a, b, c, d⟩
  | _ => default
theorem rowP_inv (r : Rw) : (⟨(rowP r).1, unAg (rowP r).2⟩ : Rw) = r := rfl
theorem st_row : SlT Try.prog 37 53 7 64 := SlT.mk' (z := .agg #[.int .i64 0, .string ⟨#[]⟩, .int .i64 0, .int .i64 0, .int .i64 0, .int .i64 0, .int .i64 0]) Try.underlying37 (by decide) (by kernel_rfl) rfl
theorem perm_rowP {xs ys : List Rw} (h : (xs.map rowP).Perm (ys.map rowP)) : xs.Perm ys := by
  have h2 := h.map fun q => (⟨q.1, unAg q.2⟩ : Rw)
  rw [List.map_map, List.map_map] at h2
  have hid : ((fun q : Cell × Value => (⟨q.1, unAg q.2⟩ : Rw)) ∘ rowP) = id := by funext r; exact rowP_inv r
  rw [hid, List.map_id, List.map_id] at h2
  exact h2

/-- What has been taken, of what is still to come. -/
def RowsDone (p : Cell → Bool) (m : List (Cell × Value)) (done : List Rw) (left : List (Cell × Value)) : Prop := ((done.map rowP) ++ left.filter fun q => p q.1).Perm (m.filter fun q => p q.1)
theorem RowsDone.fin {p : Cell → Bool} {m left : List (Cell × Value)} {done L : List Rw} (h : RowsDone p m done left) (hp : m.Perm (L.map rowP)) (h0 : left = []) : done.Perm (L.filter fun r => p r.cell) := by
  subst h0
  unfold RowsDone at h
  simp only [List.filter_nil, List.append_nil] at h
  apply perm_rowP
  refine h.trans ((hp.filter _).trans ?_)
  rw [List.filter_map]
  exact List.Perm.refl _
/-- One comes. -/
theorem left_cons {left : List (Cell × Value)} (hn : (left.map (·.1)).Nodup) {q : Cell × Value} (hq : q ∈ left) : (q :: left.filter fun x => decide (x.1 ≠ q.1)).Perm left := by
  induction left with
  | nil => cases hq
  | cons x r ih =>
    simp only [List.map_cons, List.nodup_cons] at hn
    rcases List.mem_cons.1 hq with e | e
    · subst e
      have h1 : (r.filter fun x => decide (x.1 ≠ q.1)) = r := by
        rw [List.filter_eq_self]
        intro y hy
        simp only [ne_eq, decide_not, Bool.not_eq_true', decide_eq_false_iff_not]
        intro e
        exact hn.1 (by rw [← e]; exact List.mem_map.2 ⟨y, hy, rfl⟩)
      rw [List.filter_cons_of_neg (by simp), h1]
    · have hne : x.1 ≠ q.1 := fun e2 => hn.1 (by rw [e2]; exact List.mem_map.2 ⟨q, e, rfl⟩)
      rw [List.filter_cons_of_pos (by simpa using hne)]
      exact (List.Perm.swap x q _).trans ((ih hn.2 e).cons x)
theorem RowsDone.step {p : Cell → Bool} {m left : List (Cell × Value)} {done : List Rw} (h : RowsDone p m done left) (hn : (left.map (·.1)).Nodup) {r : Rw} (hq : rowP r ∈ left) (hp : p r.cell = true) : RowsDone p m (done ++ [r]) (left.filter fun x => decide (x.1 ≠ r.cell)) := by
  unfold RowsDone at *
  refine List.Perm.trans ?_ h
  rw [List.map_append, List.append_assoc]
  refine List.Perm.append_left _ ?_
  have h1 := (left_cons hn hq).filter fun q => p q.1
  rw [List.filter_cons_of_pos (by simpa using hp)] at h1
  exact h1
theorem RowsDone.skip {p : Cell → Bool} {m left : List (Cell × Value)} {done : List Rw} (h : RowsDone p m done left) (hn : (left.map (·.1)).Nodup) {q : Cell × Value} (hq : q ∈ left) (P : p q.1 = false) : RowsDone p m done (left.filter fun x => decide (x.1 ≠ q.1)) := by
  unfold RowsDone at *
  refine List.Perm.trans ?_ h
  refine List.Perm.append_left _ ?_
  have h1 := (left_cons hn hq).filter fun q => p q.1
  rw [List.filter_cons_of_neg (by simp [P])] at h1
  exact h1

/-- Each cell. -/
def allP (c : Cell) : Bool := true

set_option maxHeartbeats 400000 in
theorem all_any (c : Cell) (w : World) : Calls Try.prog 46 #[.agg #[.int .i64 c.v, .string c.k, .int .i64 c.s]] w fun e w' => e = .returned (.bool (allP c)) ∧ Below w.heap.size w w' := by
  go_enter Try.func46, Try.ntmps46
  go_wp2_with fail
  go_ret
  exact ⟨rfl, by first | exact Below.refl _ _ | exact (Below.refl _ _).alloc (Nat.le_refl _) _⟩

set_option maxHeartbeats 4000000 in
set_option maxRecDepth 100000 in
theorem rows_all (b : Nat) (L : List Rw) (w : World) (h : HasMap w b L) (hr : Rise (L.map (·.cell))) (hmax : L.length ≤ 100000000) :
    Calls Try.prog 45 #[.map (some b), .func (.func 46) #[] #[]] w fun e w' => ∃ v, e = .returned v ∧ Own 53 7 rowL w.heap.size w' v (L.filter fun r => allP r.cell) ∧ Below w.heap.size w w' := by
  obtain ⟨m, hm, hp⟩ := h
  have hbr := hm.lt
  have hnd := hm.nd
  have hml : m.length ≤ 100000000 := by have := hp.length_eq; simp at this; omega
  have Hp := Lib.hid hp
  have Hr := Lib.hid hr
  clear hp hmax hr
  go_enter Try.func45, Try.ntmps45
  go_wp2_with (at_range; refine wpList_rangeM rfl _ rfl Try.underlying83 b m rfl hm ?_)
  intro w1 hrg hg1 hs1
  have hb1 : Below w.heap.size w w1 := (Below.refl _ _).grown hg1 (Nat.le_refl _) (fun k hk => by cases hk)
  clear hm hg1
  go_wp2_with fail
  go_loopg [5] m.length (fun g v wr => ∃ done left, g = left.length ∧ Ranging cellV wr b w.heap.size m left ∧ Own 53 7 rowL (w.heap.size + 1) wr v done ∧ done.length + left.length ≤ m.length ∧ RowsDone (fun c => allP c) m done left ∧ Below w.heap.size w wr ∧ w.heap.size + 1 ≤ wr.heap.size)
  case atStart => exact ⟨[], m, rfl, hrg, Own.nil _ _ _ _ _, by simp, by simp [RowsDone], hb1, by omega⟩
  case round =>
    obtain ⟨done, left, hg, hrg, hown, hdl, hperm, hb, hsz⟩ := hrel
    have Hg := Lib.hid hg
    have Hown := Lib.hid hown
    have Hperm := Lib.hid hperm
    clear hg hown hperm
    obtain ⟨o, cap, rfl, hcap, _, hov, hun⟩ := Hown.out.sl fun _ => rfl
    go_wp2_with (at_next; refine wpList_nextC rfl _ rfl b w.heap.size m left rfl hrg ?_ ?_)
    · intro h0
      have hperm' := Hperm.out.fin Hp.out h0
      have hnd' : (done.map (·.cell)).Nodup := (hperm'.map _).nodup_iff.2 (Rise.nodup (List.Pairwise.sublist (List.Sublist.map _ List.filter_sublist) Hr.out))
      have Hpf := Lib.hid hperm'
      have Hnf := Lib.hid hnd'
      have Hrf := Lib.hid (show Rise ((L.filter fun r => allP r.cell).map (·.cell)) from List.Pairwise.sublist (List.Sublist.map _ List.filter_sublist) Hr.out)
      clear h0 hperm' hnd'
      go_wp2_with fail
      rcases Nat.eq_zero_or_pos done.length with hd | hd
      · obtain rfl := List.eq_nil_of_length_eq_zero hd
        refine (sortRows_none _ _ _ _).mono ?_
        rintro e w' ⟨rfl, hw'⟩
        subst hw'
        go_wp2_with fail
        go_ret
        refine ⟨_, rfl, ?_, hb⟩
        rw [show (L.filter fun r => allP r.cell) = [] from Hpf.out.symm.eq_nil]
        exact Own.mono (B := w.heap.size + 1) (B' := w.heap.size) Hown.out (by omega)
      · obtain ⟨g, rfl, hg1, hg2⟩ := Hown.out.pos hd
        refine (sortRows_any g cap done _ _ Hown.out (by omega) Hnf.out).mono ?_
        rintro e w' ⟨rfl, ys, hy1, hy2, ho', hch⟩
        have hys : ys = L.filter fun r => allP r.cell := rise_eq hy2 Hrf.out (hy1.trans Hpf.out)
        have Hys := Lib.hid hys
        have hlys := hy1.length_eq
        have Hlys := Lib.hid hlys
        clear hys hy1 hlys
        go_wp2_with fail
        go_ret
        refine ⟨_, rfl, ?_, Below.chain hb hch (by omega) (by simp; omega)⟩
        rw [← Hys.out]
        exact Own.mono (B := w.heap.size + 1) (B' := w.heap.size) ho' (by omega)
    · intro c y w2 hpl hrg2 hgr2 hs2 hen
      have hs2a := Nat.le_of_eq hs2
      have hs2b := Nat.le_of_eq hs2.symm
      clear hs2
      have hym := hrg.sub.subset hpl
      have hb2 : Below w.heap.size w w2 := hb.grown hgr2 (by omega) (fun k hk => by cases hk; exact Nat.le_refl _)
      have hown2 := Hown.out.grown hgr2 (by omega)
      obtain ⟨r, hrL, hre⟩ : ∃ r ∈ L, (r.cell, r.agg.v) = (c, y) := by simpa using (Hp.out.mem_iff.1 hym)
      obtain ⟨rc, ra⟩ := r
      simp only [Prod.mk.injEq] at hre
      obtain ⟨rfl, rfl⟩ := hre
      have hln : (left.map (·.1)).Nodup := hnd.sublist (List.Sublist.map _ hrg.sub)
      have hlp := left_perm hln hpl
      have hlen := hlp.length_eq
      have Hstep := Lib.hid (fun hP => Hperm.out.step (r := ⟨rc, ra⟩) hln hpl hP)
      have Hskip := Lib.hid (fun hP => Hperm.out.skip hln hpl (P := hP))
      have Hown2 := Lib.hid hown2
      have Hlen := Lib.hid hlen
      clear hown2 hlp hym hrL hlen
      obtain ⟨cv, ck, cs⟩ := rc
      obtain ⟨ac, au, an, ax⟩ := ra
      dsimp only at *
      have hb22 : Below w2.heap.size w2 ((w2.alloc (.cells #[.int .i64 cv, .string ck, .int .i64 cs] 46)).alloc (.cells #[.int .i64 ac, .int .i64 au, .int .i64 an, .int .i64 ax] 51)) := ((Below.refl _ _).alloc (Nat.le_refl _) _).alloc (by simp) _
      have e6 : ((w2.alloc (.cells #[.int .i64 cv, .string ck, .int .i64 cs] 46)).alloc (.cells #[.int .i64 ac, .int .i64 au, .int .i64 an, .int .i64 ax] 51)).heap[w2.heap.size]? = some (.cells #[.int .i64 cv, .string ck, .int .i64 cs] 46 (0, 0)) := (blk_old (by simp)).trans (blk_at rfl)
      have e7 : ((w2.alloc (.cells #[.int .i64 cv, .string ck, .int .i64 cs] 46)).alloc (.cells #[.int .i64 ac, .int .i64 au, .int .i64 an, .int .i64 ax] 51)).heap[w2.heap.size + 1]? = some (.cells #[.int .i64 ac, .int .i64 au, .int .i64 an, .int .i64 ax] 51 (0, 0)) := blk_at (by simp)
      have hz22 : ((w2.alloc (.cells #[.int .i64 cv, .string ck, .int .i64 cs] 46)).alloc (.cells #[.int .i64 ac, .int .i64 au, .int .i64 an, .int .i64 ax] 51)).heap.size = w2.heap.size + 1 + 1 := by simp
      go_wp2_with fail
      refine (all_any ⟨cv, ck, cs⟩ _).mono ?_
      rintro e w3 ⟨rfl, hb3⟩
      have hz3 := hb3.size
      rw [hz22] at hz3
      obtain ⟨q, hq⟩ : ∃ q : Bool, q = allP ⟨cv, ck, cs⟩ := ⟨_, rfl⟩
      rw [← hq]
      have g6 := (hb3.block _ (by simp; omega)).trans e6
      have g7 := (hb3.block _ (by simp)).trans e7
      have hb23 := Below.trans hb22 (hb3.mono (by simp; omega))
      have Hq := Lib.hid hq
      have Hb23 := Lib.hid hb23
      have hrg3 : Ranging cellV w3 b w.heap.size m (left.filter fun q => decide (q.1 ≠ (⟨cv, ck, cs⟩ : Cell))) := by
        have h := hrg2.keep (hb23.block _ (by have := hrg2.lt; omega)) (hb23.block _ (by have := hrg2.lt; omega))
        simpa using h
      have Hrg3 := Lib.hid hrg3
      have Hown3 := Lib.hid (Hown2.out.below hb23)
      have hb03 : Below w.heap.size w w3 := hb2.trans (hb23.mono (by omega))
      have Hlen2 := Lib.hid (show (left.filter fun q => decide (q.1 ≠ (⟨cv, ck, cs⟩ : Cell))).length + 1 = left.length from by have := Hlen.out; simpa using this)
      clear hq hb23 hrg3 e6 e7 hb3 hz22 hb22 hrg2 Hown2 Hlen
      cases q
      · go_wp2_with fail
        go_roundg (left.filter fun q => decide (q.1 ≠ (⟨cv, ck, cs⟩ : Cell))).length
        case measure =>
          have := Hlen2.out
          have := Hg.out
          omega
        case rel => exact ⟨done, _, rfl, Hrg3.out, Hown3.out, by have := Hlen2.out; omega, Hskip.out Hq.out.symm, hb03, by omega⟩
      · have c0 := cell_blk g6 0
        have c1 := cell_blk g6 1
        have c2 := cell_blk g6 2
        have k0 := cell_blk g7 0
        have k1 := cell_blk g7 1
        have k2 := cell_blk g7 2
        have k3 := cell_blk g7 3
        simp at c0 c1 c2 k0 k1 k2 k3
        have hownA := Hown3.out.alloc (.cells #[.int .i64 cv, .string ck, .int .i64 cs, .int .i64 ac, .int .i64 au, .int .i64 an, .int .i64 ax] 53)
        have HownA := Lib.hid hownA
        have h9 := sl_new (sz := 7) (enc := rowL) (⟨⟨cv, ck, cs⟩, ⟨ac, au, an, ax⟩⟩ : Rw) w3 53 (cs := #[.int .i64 cv, .string ck, .int .i64 cs, .int .i64 ac, .int .i64 au, .int .i64 an, .int .i64 ax]) rfl
        clear hownA g6 g7
        go_wp2_with (at_builtin; (refine wpList_app st_row rfl _ _ rfl rowL (fun _ => rfl) cells1_row (w.heap.size + 1) _ done rfl HownA.out (some ⟨w3.heap.size, 0, none⟩) 1 1 [⟨⟨cv, ck, cs⟩, ⟨ac, au, an, ax⟩⟩] rfl rfl ?c1 ?c2 ?c3 ?c4 ?_))
        case c1 => exact h9
        case c2 => simp; omega
        case c3 => decide
        case c4 => simp; omega
        intro v' w4 hown' hgr _
        have hov' : ∀ k, some k = Value.ownBlock (.slice o done.length cap) → w.heap.size + 1 ≤ k := fun k hk => (HownA.out.ge hk.symm).1
        have hb4 : Below w.heap.size w w4 := (hb03.alloc (by omega) _).grown hgr (by simp; omega) (fun k hk => by have := hov' k hk.symm; omega)
        have hz4 : w3.heap.size + 1 ≤ w4.heap.size := by have := hgr.size; simpa using this
        have hlt3 := Hrg3.out.lt
        have hrg4 : Ranging cellV w4 b w.heap.size m (left.filter fun q => decide (q.1 ≠ (⟨cv, ck, cs⟩ : Cell))) := by
          refine Hrg3.out.keep ?_ ?_
          · rw [hgr.block _ (by simp; omega) (fun e => by have := hov' _ e; omega), blk_old (by omega)]
          · rw [hgr.block _ (by simp; omega) (fun e => by have := hov' _ e; omega), blk_old (by omega)]
        have Hrg4 := Lib.hid hrg4
        have Hown4 := Lib.hid hown'
        clear hrg4 hown' hgr hov'
        go_wp2_with fail
        go_roundg (left.filter fun q => decide (q.1 ≠ (⟨cv, ck, cs⟩ : Cell))).length
        case measure =>
          have := Hlen2.out
          have := Hg.out
          omega
        case rel => exact ⟨done ++ [⟨⟨cv, ck, cs⟩, ⟨ac, au, an, ax⟩⟩], _, rfl, Hrg4.out, Hown4.out, by have := Hlen2.out; rw [List.length_append]; show done.length + 1 + _ ≤ _; omega, Hstep.out Hq.out.symm, hb4, by omega⟩
end Go.Proofs.Ytaicecnfodhlcaa
