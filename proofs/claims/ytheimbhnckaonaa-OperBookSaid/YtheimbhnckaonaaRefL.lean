/- The contracts of the document's live and Wrote. -/
import Derived.Test.YtheimbhnckaonaaRefT
set_option linter.unusedVariables false
set_option linter.unusedSimpArgs false
namespace Go.Proofs.Ytheimbhnckaonaa
open Go.RowKit

theorem ins1_new {L : List Cell} (hr : Rise L) {c : Cell} {j : Nat} (hj : j ≤ L.length) (hlt : ∀ q (hq : q < L.length), q < j → ccmp L[q] c < 0) (hge : ∀ h : j < L.length, ¬ ccmp L[j] c < 0) (hne : ∀ h : j < L.length, L[j] ≠ c) : ins1 L c = L.take j ++ (c :: L.drop j) := by
  have hrr : ∀ p q (hp : p < L.length) (hq : q < L.length), p < q → ccmp L[p] L[q] < 0 := fun p q hp hq h => List.pairwise_iff_getElem.1 hr p q hp hq h
  have hcn : c ∉ L := by
    intro h
    obtain ⟨q, hq, rfl⟩ := List.mem_iff_getElem.1 h
    rcases Nat.lt_trichotomy q j with h1 | h1 | h1
    · have := hlt q hq h1
      rw [tot_cell.self] at this
      omega
    · subst h1; exact hne hq rfl
    · exact hge (by omega) (hrr j q (by omega) hq h1)
  have hgt : ∀ q (hq : q < L.length), j ≤ q → ccmp c L[q] < 0 := by
    intro q hq h
    have h0 : ccmp c (L[j]'(by omega)) < 0 := by
      rw [tot_cell.anti]
      have h1 := hge (by omega)
      have h2 : ccmp (L[j]'(by omega)) c ≠ 0 := fun e => hne (by omega) (tot_cell.eq _ _ e)
      omega
    rcases Nat.lt_or_ge j q with h3 | h3
    · exact tot_cell.trans _ _ _ h0 (hrr j q (by omega) hq h3)
    · obtain rfl : q = j := by omega
      exact h0
  unfold ins1
  rw [if_neg hcn]
  refine sortC_eq ?_ ?_
  · unfold Rise
    rw [List.pairwise_append, List.pairwise_cons]
    refine ⟨List.Pairwise.sublist (List.take_sublist _ _) hr, ⟨?_, List.Pairwise.sublist (List.drop_sublist _ _) hr⟩, ?_⟩
    · intro y hy
      obtain ⟨i, hi, rfl⟩ := List.mem_iff_getElem.1 hy
      rw [List.getElem_drop]
      exact hgt _ _ (by omega)
    · intro x hx y hy
      obtain ⟨i, hi, rfl⟩ := List.mem_iff_getElem.1 hx
      rw [List.length_take] at hi
      rw [List.getElem_take]
      rcases List.mem_cons.1 hy with rfl | hy
      · exact hlt i (by omega) (by omega)
      · obtain ⟨k, hk, rfl⟩ := List.mem_iff_getElem.1 hy
        rw [List.length_drop] at hk
        rw [List.getElem_drop]
        exact hrr i (j + k) (by omega) (by omega) (by omega)
  · have h1 := List.perm_middle (a := c) (l₁ := L.take j) (l₂ := L.drop j)
    rw [List.take_append_drop] at h1
    exact h1

theorem Own.neObj {α : Type} {E sz B : Nat} {enc : α → List Value} {w : World} {v : Value} {xs : List α} (h : Own E sz enc B w v xs) {g r : Nat} {cs : Array Value} {T : Nat} {f : Nat × Nat} (hr : w.heap[r]? = some (.cells cs T f)) (hE : T ≠ E) (h1 : v.ownBlock = some g) : g ≠ r := by
  rintro rfl
  obtain ⟨_, h | ⟨g1, c1, cur1, rfl, _, hb1, _⟩⟩ := h
  · obtain ⟨rfl, _⟩ := h; cases h1
  · cases h1
    rw [hb1] at hr
    simp at hr
    exact hE hr.2.1.symm
theorem setCell_at {w : World} {r off : Nat} {cs : Array Value} {T : Nat} {f : Nat × Nat} (h : w.heap[r]? = some (.cells cs T f)) (u : Value) : (w.setCell ⟨r, off, none⟩ u).heap[r]? = some (.cells (cs.setIfInBounds off u) T f) := by
  simp [World.setCell, Array.getElem?_modify, h]
theorem Own.setObj {α : Type} {E sz B : Nat} {enc : α → List Value} {w : World} {v : Value} {xs : List α} (h : Own E sz enc B w v xs) {r off : Nat} {cs : Array Value} {T : Nat} {f : Nat × Nat} (hr : w.heap[r]? = some (.cells cs T f)) (hE : T ≠ E) (u : Value) : Own E sz enc B (w.setCell ⟨r, off, none⟩ u) v xs :=
  h.keep fun g hg _ => Below.heap_setCell _ _ _ _ (h.neObj hr hE hg)

/-- The document's operator with other live cells. -/
theorem IsRef.turned {w : World} {b : RefB} {O : Op14} {live' : List Cell} {l' : Value} {B : Nat} (h : IsRef w b O) (ho : Own 51 3 cellL B w l' live') (hB : ∀ g ∈ b.F, g < B) (hr : Rise live') (hm : ∀ c ∈ live', cellOk O.vs c) : IsRef (w.setCell ⟨b.rp, 2, none⟩ l') b { O with live := live' } := by
  obtain ⟨l, hl, _⟩ := h.obj
  refine ⟨⟨l', by rw [setCell_at hl]; rfl, (Own.mono ho (Nat.zero_le _)).setObj hl (by decide) _⟩, h.marks.setObj hl (by decide) _, h.views.setObj hl (by decide) _, h.vlo, h.vhi, h.vok, h.mlo, h.mhi, hr, hm, fun g hg => by simpa using h.flt g hg, ?_⟩
  intro cs t f l2 e e2 g hg hh
  rw [setCell_at hl] at e
  cases e
  simp at e2
  subst e2
  have := (ho.ge hh).1
  have := hB g hg
  omega

set_option maxRecDepth 100000 in
set_option maxHeartbeats 4000000 in
theorem refLive_any (b : RefB) (O : Op14) (x : Int) (y : ByteArray) (z : Int) (w : World) (h : IsRef w b O) (hc : cellOk O.vs ⟨x, y, z⟩) (hmax : O.live.length ≤ 100000000) :
    Calls Try.prog 81 #[.pointer (some ⟨b.rp, 0, none⟩), .agg #[.int .i64 x, .string y, .int .i64 z]] w fun e w' => e = .returned (.tuple #[]) ∧ IsRef w' b { O with live := ins1 O.live ⟨x, y, z⟩ } ∧ Chg [b.rp] w w' := by
  obtain ⟨av, vcap, la, lcap, _, _, _, hls, _, _, hlc, c0, c1, c2⟩ := h.sl
  have HF := Lib.hid h.flt
  have hno : la = none → lcap = 0 := by
    rintro rfl
    obtain ⟨l9, hl9, ho9⟩ := h.obj
    have e9 : l9 = .slice none O.live.length lcap := by simpa [World.cell?, hl9] using c2
    rw [e9] at ho9
    obtain ⟨_, e | ⟨g, _, _, e, _⟩⟩ := ho9
    · have := e.1; injection this
    · cases e
  have hsp : ∀ a, la = some a → a.spot = none := by
    rintro a rfl
    obtain ⟨l9, hl9, ho9⟩ := h.obj
    have e9 : l9 = .slice (some a) O.live.length lcap := by simpa [World.cell?, hl9] using c2
    rw [e9] at ho9
    obtain ⟨_, e | ⟨g, _, _, e, _⟩⟩ := ho9
    · have := e.1; cases this
    · cases e; rfl
  have hlt := h.lt.1
  have hrise := h.rise
  have hmay := h.may
  have H := Lib.hid h
  have hls0 := Lib.hid hls
  clear h
  have c2' := c2
  have hcmp := fun a1 a2 a3 W => refCompare_any a1 a2 a3 x y z W
  generalize hL : O.live = L at *
  have HLL := Lib.hid hL
  clear hL
  go_enter Try.func81, Try.ntmps81
  go_wp2_with fail
  go_loopg [4] L.length (fun g i wr => ∃ j : Nat, j + g = L.length ∧ i = .int .i64 j ∧ (∀ q (hq : q < L.length), q < j → ccmp L[q] ⟨x, y, z⟩ < 0) ∧ Below (w.heap.size + 1) (w.alloc (.cells #[.int .i64 x, .string y, .int .i64 z] 51)) wr)
  case atStart => exact ⟨0, by omega, rfl, fun q hq h => by omega, Below.refl _ _⟩
  case round =>
    obtain ⟨j, hj, rfl, hall, hb⟩ := hrel
    have Hj := Lib.hid hj
    have Hall := Lib.hid hall
    have hb0 : Below w.heap.size w wr := ((Below.refl _ _).alloc (Nat.le_refl _) _).trans (hb.mono (by omega))
    have hzr := hb.size
    simp at hzr
    have hold : ∀ w', Below wr.heap.size wr w' → ∀ p : Addr, p.block < w.heap.size → w'.cell? p = w.cell? p := fun w' hw p hp => (hw.cell (by omega)).trans (hb0.cell hp)
    have hnew : ∀ w', Below wr.heap.size wr w' → ∀ off, w'.cell? ⟨w.heap.size, off, none⟩ = (w.alloc (.cells #[.int .i64 x, .string y, .int .i64 z] 51)).cell? ⟨w.heap.size, off, none⟩ := fun w' hw off => (hw.cell (p := ⟨w.heap.size, off, none⟩) (by show w.heap.size < _; omega)).trans (hb.cell (by simp))
    clear hj hall
    by_cases hlj : j < L.length
    · obtain ⟨lb, lo, rfl, hlb, e0, e1, e2⟩ := hls.at3 hlj rfl
      have hcj := hcmp L[j].v L[j].k L[j].s
      rw [show (⟨L[j].v, L[j].k, L[j].s⟩ : Cell) = L[j] from rfl] at hcj
      have hin := ins1_new hrise (c := ⟨x, y, z⟩) (Nat.le_of_lt hlj) Hall.out
      have Hin := Lib.hid hin
      have hmem : L[j] ∈ L := List.getElem_mem hlj
      have hnext : ccmp L[j] ⟨x, y, z⟩ < 0 → (∀ q (hq : q < L.length), q < j + 1 → ccmp L[q] ⟨x, y, z⟩ < 0) := by
        intro h q hq h2
        rcases Nat.lt_or_ge q j with h3 | h3
        · exact Hall.out q hq h3
        · obtain rfl : q = j := by omega
          exact h
      have Hnext := Lib.hid hnext
      clear hin hnext
      have Hkc := Lib.hid (show L[j] = ⟨L[j].v, L[j].k, L[j].s⟩ from rfl)
      have kp : ∀ w', Below wr.heap.size wr w' → (Below wr.heap.size wr w' ∧ w'.cell? ⟨b.rp, 2, none⟩ = some (.slice (some ⟨lb, lo, none⟩) L.length lcap) ∧ w'.cell? ⟨lb, lo + j * 3, none⟩ = some (.int .i64 L[j].v) ∧ w'.cell? ⟨lb, lo + j * 3 + 1, none⟩ = some (.string L[j].k) ∧ w'.cell? ⟨lb, lo + j * 3 + 2, none⟩ = some (.int .i64 L[j].s) ∧
          w'.cell? ⟨w.heap.size, 0, none⟩ = some (.int .i64 x) ∧ w'.cell? ⟨w.heap.size, 1, none⟩ = some (.string y) ∧ w'.cell? ⟨w.heap.size, 2, none⟩ = some (.int .i64 z)) := by
        intro w' hw
        refine ⟨hw, (hold w' hw ⟨b.rp, _, none⟩ hlt).trans c2, (hold w' hw ⟨lb, _, none⟩ hlb).trans e0, (hold w' hw ⟨lb, _, none⟩ hlb).trans e1, (hold w' hw ⟨lb, _, none⟩ hlb).trans e2, ?_, ?_, ?_⟩ <;> (rw [hnew w' hw]; go_simp)
      have hk0 := kp wr (Below.refl _ _)
      have Hold := Lib.hid hold
      have Hnew := Lib.hid hnew
      have Hc2 := Lib.hid c2'
      clear e0 e1 e2 c0 c1 c2 c2' hold hnew hcmp hls
      have d0 : decide ((j : Int) < (L.length : Int)) = true := by simpa using hlj
      generalize L[j].v = x' at *
      generalize L[j].k = y' at *
      generalize L[j].s = z' at *
      go_wp2_with fail
      go_region_held3 (fun w' => Below wr.heap.size wr w' ∧ w'.cell? ⟨b.rp, 2, none⟩ = some (.slice (some ⟨lb, lo, none⟩) L.length lcap) ∧ w'.cell? ⟨lb, lo + j * 3, none⟩ = some (.int .i64 x') ∧ w'.cell? ⟨lb, lo + j * 3 + 1, none⟩ = some (.string y') ∧ w'.cell? ⟨lb, lo + j * 3 + 2, none⟩ = some (.int .i64 z') ∧
          w'.cell? ⟨w.heap.size, 0, none⟩ = some (.int .i64 x) ∧ w'.cell? ⟨w.heap.size, 1, none⟩ = some (.string y) ∧ w'.cell? ⟨w.heap.size, 2, none⟩ = some (.int .i64 z)) (first | exact kp _ (Below.refl _ _).drew | assumption)
        (first | (go_at_call 94; refine (hcj _).mono ?_; rintro e w4 ⟨rfl, hb4⟩; have hk4 := kp _ (Below.trans (And.left (by assumption)) hb4)))
      have hb5 : Below (w.heap.size + 1) (w.alloc (.cells #[.int .i64 x, .string y, .int .i64 z] 51)) w4 := hb.trans (hk4.1.mono (by omega))
      by_cases hlt0 : ccmp L[j] ⟨x, y, z⟩ < 0
      · go_wp2_with fail
        go_roundg (gk - 1)
        case measure => have := Hj.out; omega
        case rel => exact ⟨j + 1, by have := Hj.out; omega, by go_num, Hnext.out hlt0, hb5⟩
      · have heq := fun W => run_eql_cell x' y' z' x y z W
        rw [← Hkc.out] at heq
        have hin := fun h2 => Hin.out (fun _ => by omega) h2
        have Hin' := Lib.hid hin
        have hop4 := Lib.hid (H.out.below (hb0.trans (hk4.1.mono (by omega))))
        have hls4 := Lib.hid ((hls0.out.below (hb0.trans (hk4.1.mono (by omega)))))
        clear hin
        by_cases hec : L[j] = ⟨x, y, z⟩
        · have hd : decide (L[j] = (⟨x, y, z⟩ : Cell)) = true := by simpa using hec
          rw [hd] at heq
          have hfin : ins1 L ⟨x, y, z⟩ = L := by unfold ins1; rw [if_pos (hec ▸ hmem)]
          have Hfin := Lib.hid hfin
          clear hec hd hfin
          go_wp2_with fail
          clear hlt0
          go_quiet (fail)
          go_wp2_with fail
          refine bodyPost_ret (results_none rfl _ _ _) rfl ?_
          refine ⟨rfl, ?_, (Chg.of_below (Below.drewN (hb0.trans (hk4.1.mono (by omega))) _)).mono (by simp)⟩
          rw [Hfin.out, ← HLL.out]
          exact H.out.below (Below.drewN (hb0.trans (hk4.1.mono (by omega))) _)
        · have hd : decide (L[j] = (⟨x, y, z⟩ : Cell)) = false := by simpa using hec
          rw [hd] at heq
          have hfin := Hin'.out (fun _ => hec)
          have Hfin := Lib.hid hfin
          clear hec hd hfin
          go_wp2_with fail
          clear hlt0
          go_quiet (fail)
          have hbw4 : Below w.heap.size w (w4.drewN nq) := Below.drewN (hb0.trans (hk4.1.mono (by omega))) _
          have hzw4 : w.heap.size + 1 ≤ (w4.drewN nq).heap.size := by have := hk4.1.size; show _ ≤ w4.heap.size; omega
          obtain ⟨_, _, _, _, _, f0', f1', f2'⟩ := hk4
          have f0 : (w4.drewN nq).cell? ⟨w.heap.size, 0, none⟩ = some (.int .i64 x) := f0'
          have f1 : (w4.drewN nq).cell? ⟨w.heap.size, 1, none⟩ = some (.string y) := f1'
          have f2 : (w4.drewN nq).cell? ⟨w.heap.size, 2, none⟩ = some (.int .i64 z) := f2'
          have hne : ¬ lcap = j := by omega
          have hbW : Below w.heap.size w (w4.drewN nq) := hbw4
          have hlsW := hls0.out.below hbW
          have hWz : w.heap.size + 1 ≤ (w4.drewN nq).heap.size := hzw4
          have htl : (L.take j).length = j := by first | rfl | (rw [List.length_take]; omega)
          have hdl : (L.drop j).length = L.length - j := by simp
          go_wp2_with (at_builtin; refine wpList_app st_cell rfl _ _ rfl cellL (fun _ => rfl) cells1_cell (w.heap.size + 1) _ [] rfl (Own.nil _ _ _ _ _) (some ⟨lb, lo, none⟩) (j) (lcap) (L.take j) rfl (by first | rfl | (rw [List.length_take]; omega)) ?q1_1 ?q1_2 ?q1_3 ?q1_4 ?_)
          try any_goals (first | exact hlsW | exact hlsW.take _ | exact hWz | omega | (simp only [List.length_nil]; omega) | decide)
          intro v5 w5 own5 hgr5 _
          have hb5' : Below w.heap.size w w5 := hbW.grown hgr5 (by omega) (fun g hg => by cases hg)
          have hb5n : Below (w.heap.size + 1) (w4.drewN nq) w5 := (Below.refl _ _).grown hgr5 (by omega) (fun g hg => by cases hg)
          have hz5 := hgr5.size
          try rw [List.nil_append] at own5
          have own5' := own5.alloc (.cells #[.int .i64 x, .string y, .int .i64 z] 51)
          have Own5 := Lib.hid own5'
          have g0 := (hb5n.cell (p := ⟨w.heap.size, 0, none⟩) (by simp)).trans f0
          have g1 := (hb5n.cell (p := ⟨w.heap.size, 1, none⟩) (by simp)).trans f1
          have g2 := (hb5n.cell (p := ⟨w.heap.size, 2, none⟩) (by simp)).trans f2
          clear own5 own5'
          go_wp2_with (at_builtin; refine wpList_app st_cell rfl _ _ rfl cellL (fun _ => rfl) cells1_cell (w.heap.size + 1) _ (L.take j) rfl Own5.out (some ⟨w5.heap.size, 0, none⟩) 1 1 [⟨x, y, z⟩] rfl rfl ?q2_1 ?q2_2 ?q2_3 ?q2_4 ?_)
          have h9 := sl_new (sz := 3) (enc := cellL) (⟨x, y, z⟩ : Cell) w5 51 (cs := #[.int .i64 x, .string y, .int .i64 z]) rfl
          try any_goals (first | exact h9 | (simp; done) | omega | (simp; omega) | decide)
          intro v6 w6 own6 hgr6 _
          have hb6 : Below w.heap.size w w6 := (hb5'.alloc hb5'.size _).grown hgr6 (by simp; omega) (fun g hg => by first | exact Nat.le_trans (Nat.le_succ _) (Own5.out.ge hg).1 | cases hg)
          have hz6 := hgr6.size
          simp at hz6
          have Own6 := Lib.hid own6
          have k2 := (hb6.cell (p := ⟨b.rp, 2, none⟩) hlt).trans Hc2.out
          have hls6 := hls0.out.below hb6
          clear own6
          go_wp2_with (at_builtin; refine wpList_app st_cell rfl _ _ rfl cellL (fun _ => rfl) cells1_cell (w.heap.size + 1) _ (L.take j ++ [(⟨x, y, z⟩ : Cell)]) rfl Own6.out (some ⟨lb, lo + j * 3, none⟩) (L.length - j) (lcap - j) (L.drop j) rfl (by first | rfl | (rw [List.length_drop])) ?q3_1 ?q3_2 ?q3_3 ?q3_4 ?_)
          try any_goals (first | (exact hls6.drop j; done) | (simp only [List.length_append, List.length_take, List.length_drop, List.length_cons, List.length_nil]; omega) | omega | (simp; omega) | decide)
          intro v7 w7 own7 hgr7 _
          have hb7 : Below w.heap.size w w7 := hb6.grown hgr7 (by omega) (fun g hg => Nat.le_trans (Nat.le_succ _) (Own6.out.ge hg).1)
          have hz7 := hgr7.size
          obtain ⟨o7, cap7, e7, _, _, _, _⟩ := own7.sl fun _ => rfl
          generalize (L.take j ++ (⟨x, y, z⟩ : Cell) :: L.drop j).length = n7 at e7
          subst e7
          have hop7 := H.out.below hb7
          have hrl : Rise (ins1 L ⟨x, y, z⟩) := rise_ins1 hrise _
          have hopT := hop7.turned (l' := .slice o7 n7 cap7) (live' := ins1 L ⟨x, y, z⟩) (by rw [Hfin.out]; exact Own.mono own7 (Nat.le_succ _)) HF.out hrl (by
            intro d hd
            rcases mem_ins1.1 hd with rfl | hd
            · exact hc
            · exact hmay d hd)
          obtain ⟨l9, hl9, _⟩ := hop7.obj
          have fz : w7.frozen? ⟨b.rp, 2, none⟩ = false := by simp [World.frozen?, hl9]
          have k27 := (hb7.cell (p := ⟨b.rp, 2, none⟩) hlt).trans Hc2.out
          have HopT := Lib.hid hopT
          have Hb7 := Lib.hid hb7
          clear hopT own7 hop7 hl9 hb7
          go_wp2_with fail
          go_end0
          refine ⟨rfl, HopT.out, ?_⟩
          exact ((Chg.of_below Hb7.out).mono (by simp)).trans (Chg.set _ (l := [b.rp]) (by show b.rp ∈ [b.rp]; simp) _)
    · obtain rfl : j = L.length := by have := Hj.out; omega
      have d0 : decide ((L.length : Int) < (L.length : Int)) = false := by simp
      have hfin := ins1_new hrise (c := ⟨x, y, z⟩) (Nat.le_refl _) Hall.out (fun h => by omega) (fun h => by omega)
      rw [List.take_length, List.drop_length] at hfin
      have Hfin := Lib.hid hfin
      have Hc2 := Lib.hid c2'
      have f0 : wr.cell? ⟨w.heap.size, 0, none⟩ = some (.int .i64 x) := by rw [hnew wr (Below.refl _ _)]; go_simp
      have f1 : wr.cell? ⟨w.heap.size, 1, none⟩ = some (.string y) := by rw [hnew wr (Below.refl _ _)]; go_simp
      have f2 : wr.cell? ⟨w.heap.size, 2, none⟩ = some (.int .i64 z) := by rw [hnew wr (Below.refl _ _)]; go_simp
      have r2 : wr.cell? ⟨b.rp, 2, none⟩ = some (.slice la L.length lcap) := (hold wr (Below.refl _ _) ⟨b.rp, 2, none⟩ hlt).trans c2
      clear hfin hold hnew c0 c1 c2 c2' hcmp hls hlj
      go_wp2_with fail
      go_quiet (fail)
      go_wp2_with fail
      have hb1 : Below w.heap.size w (wr.drewN nq) := Below.drewN hb0 _
      have hz1 : w.heap.size + 1 ≤ (wr.drewN nq).heap.size := hzr
      have f0 : (wr.drewN nq).cell? ⟨w.heap.size, 0, none⟩ = some (.int .i64 x) := f0
      have f1 : (wr.drewN nq).cell? ⟨w.heap.size, 1, none⟩ = some (.string y) := f1
      have f2 : (wr.drewN nq).cell? ⟨w.heap.size, 2, none⟩ = some (.int .i64 z) := f2
      have r2 : (wr.drewN nq).cell? ⟨b.rp, 2, none⟩ = some (.slice la L.length lcap) := r2
      generalize wr.drewN nq = w4 at *
      go_quiet (fail)
      have hbw4 : Below w.heap.size w (w4.drewN nq) := Below.drewN hb1 _
      have hzw4 : w.heap.size + 1 ≤ (w4.drewN nq).heap.size := hz1
      have f0 : (w4.drewN nq).cell? ⟨w.heap.size, 0, none⟩ = some (.int .i64 x) := f0
      have f1 : (w4.drewN nq).cell? ⟨w.heap.size, 1, none⟩ = some (.string y) := f1
      have f2 : (w4.drewN nq).cell? ⟨w.heap.size, 2, none⟩ = some (.int .i64 z) := f2
      rcases la with _ | ⟨lb, lo, lsp⟩
      · obtain rfl := hno rfl
        obtain rfl : L = [] := List.eq_nil_of_length_eq_zero (by omega)
        have hbW : Below w.heap.size w (w4.drewN nq) := hbw4
        have hlsW := hls0.out.below hbW
        have hWz : w.heap.size + 1 ≤ (w4.drewN nq).heap.size := hzw4
        have htl : (([] : List Cell)).length = 0 := by first | rfl | (rw [List.length_take]; omega)
        have hdl : (([] : List Cell)).length = 0 := by simp
        go_wp2_with (at_builtin; refine wpList_app st_cell rfl _ _ rfl cellL (fun _ => rfl) cells1_cell (w.heap.size + 1) _ [] rfl (Own.nil _ _ _ _ _) none (0) (0) (([] : List Cell)) rfl (by first | rfl | (rw [List.length_take]; omega)) ?q4_1 ?q4_2 ?q4_3 ?q4_4 ?_)
        try any_goals (first | exact hlsW | exact hlsW.take _ | exact hWz | omega | (simp only [List.length_nil]; omega) | decide)
        intro v5 w5 own5 hgr5 _
        have hb5' : Below w.heap.size w w5 := hbW.grown hgr5 (by omega) (fun g hg => by cases hg)
        have hb5n : Below (w.heap.size + 1) (w4.drewN nq) w5 := (Below.refl _ _).grown hgr5 (by omega) (fun g hg => by cases hg)
        have hz5 := hgr5.size
        try rw [List.nil_append] at own5
        have own5' := own5.alloc (.cells #[.int .i64 x, .string y, .int .i64 z] 51)
        have Own5 := Lib.hid own5'
        have g0 := (hb5n.cell (p := ⟨w.heap.size, 0, none⟩) (by simp)).trans f0
        have g1 := (hb5n.cell (p := ⟨w.heap.size, 1, none⟩) (by simp)).trans f1
        have g2 := (hb5n.cell (p := ⟨w.heap.size, 2, none⟩) (by simp)).trans f2
        clear own5 own5'
        go_wp2_with (at_builtin; refine wpList_app st_cell rfl _ _ rfl cellL (fun _ => rfl) cells1_cell (w.heap.size + 1) _ (([] : List Cell)) rfl Own5.out (some ⟨w5.heap.size, 0, none⟩) 1 1 [⟨x, y, z⟩] rfl rfl ?q5_1 ?q5_2 ?q5_3 ?q5_4 ?_)
        have h9 := sl_new (sz := 3) (enc := cellL) (⟨x, y, z⟩ : Cell) w5 51 (cs := #[.int .i64 x, .string y, .int .i64 z]) rfl
        try any_goals (first | exact h9 | (simp; done) | omega | (simp; omega) | decide)
        intro v6 w6 own6 hgr6 _
        have hb6 : Below w.heap.size w w6 := (hb5'.alloc hb5'.size _).grown hgr6 (by simp; omega) (fun g hg => by first | exact Nat.le_trans (Nat.le_succ _) (Own5.out.ge hg).1 | cases hg)
        have hz6 := hgr6.size
        simp at hz6
        have Own6 := Lib.hid own6
        have k2 := (hb6.cell (p := ⟨b.rp, 2, none⟩) hlt).trans Hc2.out
        have hls6 := hls0.out.below hb6
        clear own6
        go_wp2_with (at_builtin; refine wpList_app st_cell rfl _ _ rfl cellL (fun _ => rfl) cells1_cell (w.heap.size + 1) _ (([] : List Cell) ++ [(⟨x, y, z⟩ : Cell)]) rfl Own6.out (none) (0) (0) (([] : List Cell)) rfl (by first | rfl | (rw [List.length_drop])) ?q6_1 ?q6_2 ?q6_3 ?q6_4 ?_)
        try any_goals (first | (intro i hi; simp at hi; done) | (simp only [List.length_append, List.length_take, List.length_drop, List.length_cons, List.length_nil]; omega) | omega | (simp; omega) | decide)
        intro v7 w7 own7 hgr7 _
        have hb7 : Below w.heap.size w w7 := hb6.grown hgr7 (by omega) (fun g hg => Nat.le_trans (Nat.le_succ _) (Own6.out.ge hg).1)
        have hz7 := hgr7.size
        obtain ⟨o7, cap7, e7, _, _, _, _⟩ := own7.sl fun _ => rfl
        generalize ([(⟨x, y, z⟩ : Cell)]).length = n7 at e7
        subst e7
        have hop7 := H.out.below hb7
        have hrl : Rise (ins1 ([] : List Cell) ⟨x, y, z⟩) := rise_ins1 hrise _
        have hopT := hop7.turned (l' := .slice o7 n7 cap7) (live' := ins1 ([] : List Cell) ⟨x, y, z⟩) (by rw [Hfin.out]; exact Own.mono own7 (Nat.le_succ _)) HF.out hrl (by
          intro d hd
          rcases mem_ins1.1 hd with rfl | hd
          · exact hc
          · exact hmay d hd)
        obtain ⟨l9, hl9, _⟩ := hop7.obj
        have fz : w7.frozen? ⟨b.rp, 2, none⟩ = false := by simp [World.frozen?, hl9]
        have k27 := (hb7.cell (p := ⟨b.rp, 2, none⟩) hlt).trans Hc2.out
        have HopT := Lib.hid hopT
        have Hb7 := Lib.hid hb7
        clear hopT own7 hop7 hl9 hb7
        go_wp2_with fail
        go_end0
        refine ⟨rfl, HopT.out, ?_⟩
        exact ((Chg.of_below Hb7.out).mono (by simp)).trans (Chg.set _ (l := [b.rp]) (by show b.rp ∈ [b.rp]; simp) _)
      · obtain rfl : lsp = none := hsp _ rfl
        by_cases hne : lcap = L.length
        · subst hne
          have hbW : Below w.heap.size w (w4.drewN nq) := hbw4
          have hlsW := hls0.out.below hbW
          have hWz : w.heap.size + 1 ≤ (w4.drewN nq).heap.size := hzw4
          have htl : (L).length = L.length := by first | rfl | (rw [List.length_take]; omega)
          have hdl : (([] : List Cell)).length = 0 := by simp
          go_wp2_with (at_builtin; refine wpList_app st_cell rfl _ _ rfl cellL (fun _ => rfl) cells1_cell (w.heap.size + 1) _ [] rfl (Own.nil _ _ _ _ _) (some ⟨lb, lo, none⟩) (L.length) (L.length) (L) rfl (by first | rfl | (rw [List.length_take]; omega)) ?q7_1 ?q7_2 ?q7_3 ?q7_4 ?_)
          try any_goals (first | exact hlsW | exact hlsW.take _ | exact hWz | omega | (simp only [List.length_nil]; omega) | decide)
          intro v5 w5 own5 hgr5 _
          have hb5' : Below w.heap.size w w5 := hbW.grown hgr5 (by omega) (fun g hg => by cases hg)
          have hb5n : Below (w.heap.size + 1) (w4.drewN nq) w5 := (Below.refl _ _).grown hgr5 (by omega) (fun g hg => by cases hg)
          have hz5 := hgr5.size
          try rw [List.nil_append] at own5
          have own5' := own5.alloc (.cells #[.int .i64 x, .string y, .int .i64 z] 51)
          have Own5 := Lib.hid own5'
          have g0 := (hb5n.cell (p := ⟨w.heap.size, 0, none⟩) (by simp)).trans f0
          have g1 := (hb5n.cell (p := ⟨w.heap.size, 1, none⟩) (by simp)).trans f1
          have g2 := (hb5n.cell (p := ⟨w.heap.size, 2, none⟩) (by simp)).trans f2
          clear own5 own5'
          go_wp2_with (at_builtin; refine wpList_app st_cell rfl _ _ rfl cellL (fun _ => rfl) cells1_cell (w.heap.size + 1) _ (L) rfl Own5.out (some ⟨w5.heap.size, 0, none⟩) 1 1 [⟨x, y, z⟩] rfl rfl ?q8_1 ?q8_2 ?q8_3 ?q8_4 ?_)
          have h9 := sl_new (sz := 3) (enc := cellL) (⟨x, y, z⟩ : Cell) w5 51 (cs := #[.int .i64 x, .string y, .int .i64 z]) rfl
          try any_goals (first | exact h9 | (simp; done) | omega | (simp; omega) | decide)
          intro v6 w6 own6 hgr6 _
          have hb6 : Below w.heap.size w w6 := (hb5'.alloc hb5'.size _).grown hgr6 (by simp; omega) (fun g hg => by first | exact Nat.le_trans (Nat.le_succ _) (Own5.out.ge hg).1 | cases hg)
          have hz6 := hgr6.size
          simp at hz6
          have Own6 := Lib.hid own6
          have k2 := (hb6.cell (p := ⟨b.rp, 2, none⟩) hlt).trans Hc2.out
          have hls6 := hls0.out.below hb6
          clear own6
          go_wp2_with (at_builtin; refine wpList_app st_cell rfl _ _ rfl cellL (fun _ => rfl) cells1_cell (w.heap.size + 1) _ (L ++ [(⟨x, y, z⟩ : Cell)]) rfl Own6.out (some ⟨lb, lo, none⟩) (0) (0) (([] : List Cell)) rfl (by first | rfl | (rw [List.length_drop])) ?q9_1 ?q9_2 ?q9_3 ?q9_4 ?_)
          try any_goals (first | (intro i hi; simp at hi; done) | (simp only [List.length_append, List.length_take, List.length_drop, List.length_cons, List.length_nil]; omega) | omega | (simp; omega) | decide)
          intro v7 w7 own7 hgr7 _
          have hb7 : Below w.heap.size w w7 := hb6.grown hgr7 (by omega) (fun g hg => Nat.le_trans (Nat.le_succ _) (Own6.out.ge hg).1)
          have hz7 := hgr7.size
          obtain ⟨o7, cap7, e7, _, _, _, _⟩ := own7.sl fun _ => rfl
          generalize (L ++ [(⟨x, y, z⟩ : Cell)]).length = n7 at e7
          subst e7
          have hop7 := H.out.below hb7
          have hrl : Rise (ins1 L ⟨x, y, z⟩) := rise_ins1 hrise _
          have hopT := hop7.turned (l' := .slice o7 n7 cap7) (live' := ins1 L ⟨x, y, z⟩) (by rw [Hfin.out]; exact Own.mono own7 (Nat.le_succ _)) HF.out hrl (by
            intro d hd
            rcases mem_ins1.1 hd with rfl | hd
            · exact hc
            · exact hmay d hd)
          obtain ⟨l9, hl9, _⟩ := hop7.obj
          have fz : w7.frozen? ⟨b.rp, 2, none⟩ = false := by simp [World.frozen?, hl9]
          have k27 := (hb7.cell (p := ⟨b.rp, 2, none⟩) hlt).trans Hc2.out
          have HopT := Lib.hid hopT
          have Hb7 := Lib.hid hb7
          clear hopT own7 hop7 hl9 hb7
          go_wp2_with fail
          go_end0
          refine ⟨rfl, HopT.out, ?_⟩
          exact ((Chg.of_below Hb7.out).mono (by simp)).trans (Chg.set _ (l := [b.rp]) (by show b.rp ∈ [b.rp]; simp) _)
        · skip
          have hbW : Below w.heap.size w (w4.drewN nq) := hbw4
          have hlsW := hls0.out.below hbW
          have hWz : w.heap.size + 1 ≤ (w4.drewN nq).heap.size := hzw4
          have htl : (L).length = L.length := by first | rfl | (rw [List.length_take]; omega)
          have hdl : (([] : List Cell)).length = 0 := by simp
          go_wp2_with (at_builtin; refine wpList_app st_cell rfl _ _ rfl cellL (fun _ => rfl) cells1_cell (w.heap.size + 1) _ [] rfl (Own.nil _ _ _ _ _) (some ⟨lb, lo, none⟩) (L.length) (lcap) (L) rfl (by first | rfl | (rw [List.length_take]; omega)) ?q10_1 ?q10_2 ?q10_3 ?q10_4 ?_)
          try any_goals (first | exact hlsW | exact hlsW.take _ | exact hWz | omega | (simp only [List.length_nil]; omega) | decide)
          intro v5 w5 own5 hgr5 _
          have hb5' : Below w.heap.size w w5 := hbW.grown hgr5 (by omega) (fun g hg => by cases hg)
          have hb5n : Below (w.heap.size + 1) (w4.drewN nq) w5 := (Below.refl _ _).grown hgr5 (by omega) (fun g hg => by cases hg)
          have hz5 := hgr5.size
          try rw [List.nil_append] at own5
          have own5' := own5.alloc (.cells #[.int .i64 x, .string y, .int .i64 z] 51)
          have Own5 := Lib.hid own5'
          have g0 := (hb5n.cell (p := ⟨w.heap.size, 0, none⟩) (by simp)).trans f0
          have g1 := (hb5n.cell (p := ⟨w.heap.size, 1, none⟩) (by simp)).trans f1
          have g2 := (hb5n.cell (p := ⟨w.heap.size, 2, none⟩) (by simp)).trans f2
          clear own5 own5'
          go_wp2_with (at_builtin; refine wpList_app st_cell rfl _ _ rfl cellL (fun _ => rfl) cells1_cell (w.heap.size + 1) _ (L) rfl Own5.out (some ⟨w5.heap.size, 0, none⟩) 1 1 [⟨x, y, z⟩] rfl rfl ?q11_1 ?q11_2 ?q11_3 ?q11_4 ?_)
          have h9 := sl_new (sz := 3) (enc := cellL) (⟨x, y, z⟩ : Cell) w5 51 (cs := #[.int .i64 x, .string y, .int .i64 z]) rfl
          try any_goals (first | exact h9 | (simp; done) | omega | (simp; omega) | decide)
          intro v6 w6 own6 hgr6 _
          have hb6 : Below w.heap.size w w6 := (hb5'.alloc hb5'.size _).grown hgr6 (by simp; omega) (fun g hg => by first | exact Nat.le_trans (Nat.le_succ _) (Own5.out.ge hg).1 | cases hg)
          have hz6 := hgr6.size
          simp at hz6
          have Own6 := Lib.hid own6
          have k2 := (hb6.cell (p := ⟨b.rp, 2, none⟩) hlt).trans Hc2.out
          have hls6 := hls0.out.below hb6
          clear own6
          go_wp2_with (at_builtin; refine wpList_app st_cell rfl _ _ rfl cellL (fun _ => rfl) cells1_cell (w.heap.size + 1) _ (L ++ [(⟨x, y, z⟩ : Cell)]) rfl Own6.out (some ⟨lb, lo + L.length * 3, none⟩) (0) (lcap - L.length) (([] : List Cell)) rfl (by first | rfl | (rw [List.length_drop])) ?q12_1 ?q12_2 ?q12_3 ?q12_4 ?_)
          try any_goals (first | (intro i hi; simp at hi; done) | (simp only [List.length_append, List.length_take, List.length_drop, List.length_cons, List.length_nil]; omega) | omega | (simp; omega) | decide)
          intro v7 w7 own7 hgr7 _
          have hb7 : Below w.heap.size w w7 := hb6.grown hgr7 (by omega) (fun g hg => Nat.le_trans (Nat.le_succ _) (Own6.out.ge hg).1)
          have hz7 := hgr7.size
          obtain ⟨o7, cap7, e7, _, _, _, _⟩ := own7.sl fun _ => rfl
          generalize (L ++ [(⟨x, y, z⟩ : Cell)]).length = n7 at e7
          subst e7
          have hop7 := H.out.below hb7
          have hrl : Rise (ins1 L ⟨x, y, z⟩) := rise_ins1 hrise _
          have hopT := hop7.turned (l' := .slice o7 n7 cap7) (live' := ins1 L ⟨x, y, z⟩) (by rw [Hfin.out]; exact Own.mono own7 (Nat.le_succ _)) HF.out hrl (by
            intro d hd
            rcases mem_ins1.1 hd with rfl | hd
            · exact hc
            · exact hmay d hd)
          obtain ⟨l9, hl9, _⟩ := hop7.obj
          have fz : w7.frozen? ⟨b.rp, 2, none⟩ = false := by simp [World.frozen?, hl9]
          have k27 := (hb7.cell (p := ⟨b.rp, 2, none⟩) hlt).trans Hc2.out
          have HopT := Lib.hid hopT
          have Hb7 := Lib.hid hb7
          clear hopT own7 hop7 hl9 hb7
          go_wp2_with fail
          go_end0
          refine ⟨rfl, HopT.out, ?_⟩
          exact ((Chg.of_below Hb7.out).mono (by simp)).trans (Chg.set _ (l := [b.rp]) (by show b.rp ∈ [b.rp]; simp) _)
end Go.Proofs.Ytheimbhnckaonaa
