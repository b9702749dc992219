/- The contract of the document's Take. -/
import Derived.Test.YtheimbhnckaonaaRefM
set_option linter.unusedVariables false
set_option linter.unusedSimpArgs false
namespace Go.Proofs.Ytheimbhnckaonaa
open Go.RowKit

/-- Own rows of unlike elements lie in unlike blocks. -/
theorem Own.neE {α β : Type} {E E' sz sz' B B' : Nat} {enc : α → List Value} {enc' : β → List Value} {w : World} {v u : Value} {xs : List α} {ys : List β} (h : Own E sz enc B w v xs) (h' : Own E' sz' enc' B' w u ys) (hE : E ≠ E') {g : Nat} (h1 : v.ownBlock = some g) (h2 : u.ownBlock = some g) : False := by
  obtain ⟨_, h | ⟨g1, c1, cur1, rfl, _, hb1, _⟩⟩ := h
  · obtain ⟨rfl, _⟩ := h; cases h1
  · obtain ⟨_, h' | ⟨g2, c2, cur2, rfl, _, hb2, _⟩⟩ := h'
    · obtain ⟨rfl, _⟩ := h'; cases h2
    · cases h1; cases h2
      rw [hb1] at hb2
      simp at hb2
      exact hE hb2.2
theorem Own.grownNe {α β : Type} {E E' sz sz' B B' : Nat} {enc : α → List Value} {enc' : β → List Value} {w w' : World} {v u : Value} {xs : List α} {ys : List β} (h : Own E sz enc B w v xs) (k : w.grownBy w' u.ownBlock) (h' : Own E' sz' enc' B' w u ys) (hE : E ≠ E') : Own E sz enc B w' v xs :=
  h.keep fun g hg hlt => k.block g hlt (fun e => h.neE h' hE hg e.symm)

theorem refTake_key (b : RefB) (O : Op14) (k : ByteArray) (t : Int) (w : World) (hk : keyOk k = false) :
    Calls Try.prog 37 #[.pointer (some ⟨b.rp, 0, none⟩), .string k, .int .i64 t] w fun e w' => e = .returned (.tuple #[.slice none 0 0, .bool false, .int .i64 21]) ∧ w = w' := by
  have hi := fun W => refWrong_any k t W
  rw [if_pos hk] at hi
  go_enter Try.func37, Try.ntmps37
  go_wp2_with (go_at_call 64; refine (hi _).mono ?_; rintro e w' ⟨rfl, rfl⟩)
  go_ret3
  exact ⟨rfl, rfl⟩
theorem refTake_time (b : RefB) (O : Op14) (k : ByteArray) (t : Int) (w : World) (hk : keyOk k = true) (ht : t < -1152921504606846976 ∨ 1152921504606846976 < t) :
    Calls Try.prog 37 #[.pointer (some ⟨b.rp, 0, none⟩), .string k, .int .i64 t] w fun e w' => e = .returned (.tuple #[.slice none 0 0, .bool false, .int .i64 22]) ∧ w = w' := by
  have hi := fun W => refWrong_any k t W
  rw [if_neg (by simp [hk]), if_pos ht] at hi
  go_enter Try.func37, Try.ntmps37
  go_wp2_with (go_at_call 64; refine (hi _).mono ?_; rintro e w' ⟨rfl, rfl⟩)
  go_ret3
  exact ⟨rfl, rfl⟩

set_option maxRecDepth 100000 in
set_option maxHeartbeats 4000000 in
theorem refTake_any (b : RefB) (O : Op14) (k : ByteArray) (t : Int) (w : World) (h : IsRef w b O) (hk : keyOk k = true) (ht : -1152921504606846976 ≤ t) (ht2 : t ≤ 1152921504606846976) :
    Calls Try.prog 37 #[.pointer (some ⟨b.rp, 0, none⟩), .string k, .int .i64 t] w fun e w' => ∃ v, e = .returned (.tuple #[v, .bool (isLate O.vs t (leastOf O.ms)), .int .i64 0]) ∧ Own 51 3 cellL w.heap.size w' v ((openCells O.vs t (leastOf O.ms)).map (setK k)) ∧ Below w.heap.size w w' := by
  have hi := fun W => refWrong_any k t W
  rw [if_neg (by simp [hk]), if_neg (by omega)] at hi
  have hsh : ∀ i s, i < O.vs.length → shutC O ⟨(i : Nat), k, s⟩ = (O.vs.getD i default).shut s (leastOf O.ms) := by
    intro i s hi
    unfold shutC
    simp
  have hcl := fun (i : Nat) s W hW hi h1 h2 => refClosed_any b O i k s W hW ⟨i, hi, rfl⟩ h1 h2
  have H := Lib.hid h
  have h4 := h.vhi
  have hok := h.vok
  clear h
  go_enter Try.func37, Try.ntmps37
  go_wp2_with (go_at_call 64; refine (hi _).mono ?_; rintro e w' ⟨rfl, rfl⟩)
  go_loopg [10, 11, 12, 13, 14, 15, 16] O.vs.length (fun g n10 o11 i12 _ _ _ _ wr => ∃ q : Nat, q + g = O.vs.length ∧ n10 = .int .i64 (winN O.vs t q) ∧ i12 = .int .i64 q ∧ Own 51 3 cellL w.heap.size wr o11 ((openN O.vs t (leastOf O.ms) q).map (setK k)) ∧ Below w.heap.size w wr)
  case atStart => exact ⟨0, by omega, rfl, rfl, Own.nil _ _ _ _ _, Below.refl _ _⟩
  case round =>
    obtain ⟨q, hq, rfl, rfl, hown, hb⟩ := hrel
    have Hq := Lib.hid hq
    have hwl := winN_le hok t q (by omega)
    have hol := openN_le hok t (leastOf O.ms) q (by omega)
    have hll : ((openN O.vs t (leastOf O.ms) q).map (setK k)).length ≤ 256 := by rw [List.length_map]; omega
    obtain ⟨o, cap, rfl, hcap, _, hov, hun⟩ := hown.sl fun _ => rfl
    have Hown := Lib.hid hown
    have Hll := Lib.hid hll
    have hopr := H.out.below hb
    obtain ⟨av, vcap, la, lcap, _, hvc, hvs, _, _, _, _, c0, _, _⟩ := hopr.sl
    have hlt := hopr.lt.1
    clear hq hown hll
    by_cases hlq : q < O.vs.length
    · have hokq := hok O.vs[q] (List.getElem_mem hlq)
      obtain ⟨vb, vo, rfl, hvb, v0, v1, v2⟩ := hvs.at3 hlq rfl
      have hst := fun W => refStarts_any O.vs[q].size O.vs[q].slide O.vs[q].late t W hokq ht ht2
      have hgd : O.vs.getD q default = O.vs[q] := by simp [hlq]
      go_wp2_with (go_at_call 65; refine (hst _).mono ?_; rintro e w1 ⟨v1', rfl, hL, hb1⟩)
      have hLl : (O.vs[q].starts t).length ≤ 64 := by rw [starts_length]; exact cnt_le hokq t
      obtain ⟨oL, capL, rfl, hcapL, hLs, hovL, hunL⟩ := hL.sl fun _ => rfl
      have hLb := starts_bounds hokq ht ht2
      have hwn := winN_succ O.vs t q
      have hon := openN_succ O.vs t (leastOf O.ms) q
      unfold viewCells at hon
      rw [hgd] at hwn hon
      unfold View.opens at hon
      have Hwn := Lib.hid hwn
      have Hon := Lib.hid hon
      have hsq := hsh q
      rw [hgd] at hsq
      clear hwn hon
      have hL' : Own 2 1 i64L wr.heap.size w1 (.slice oL (O.vs[q].starts t).length capL) (O.vs[q].starts t) := hL
      have hshv : ∀ s, View.shut ⟨O.vs[q].size, O.vs[q].slide, O.vs[q].late⟩ s (leastOf O.ms) = O.vs[q].shut s (leastOf O.ms) := fun s => rfl
      have hz1 := hb1.size
      have hown1 := Hown.out.below hb1
      have hfill : ∀ p (hp : p < (O.vs[q].starts t).length), ((((O.vs[q].starts t).take (p + 1)).filter fun s => !O.vs[q].shut s (leastOf O.ms)).map fun s => (⟨q, k, s⟩ : Cell)) = ((((O.vs[q].starts t).take p).filter fun s => !O.vs[q].shut s (leastOf O.ms)).map fun s => (⟨q, k, s⟩ : Cell)) ++ (if O.vs[q].shut (O.vs[q].starts t)[p] (leastOf O.ms) = true then [] else [⟨q, k, (O.vs[q].starts t)[p]⟩]) := by
        intro p hp
        rw [List.take_succ_eq_append_getElem hp, List.filter_append, List.map_append]
        congr 1
        cases h9 : O.vs[q].shut (O.vs[q].starts t)[p] (leastOf O.ms) <;> simp [h9]
      have Hown1 := Lib.hid hown1
      have HL := Lib.hid hL'
      have HF := Lib.hid hfill
      clear hL hL' hown1 hfill hLs
      generalize hSS : O.vs[q].starts t = L at *
      have hmax : ((openN O.vs t (leastOf O.ms) q).map (setK k)).length ≤ 256 := Hll.out
      generalize hDD : (openN O.vs t (leastOf O.ms) q).map (setK k) = D at *
      go_wp2_with fail
      go_loopg [11, 15, 16] L.length (fun g o11 i15 _ w2 => ∃ p : Nat, p + g = L.length ∧ i15 = .int .i64 p ∧ Own 51 3 cellL w.heap.size w2 o11 (D ++ (((L.take p).filter fun s => !O.vs[q].shut s (leastOf O.ms)).map fun s => (⟨q, k, s⟩ : Cell))) ∧ Own 2 1 i64L wr.heap.size w2 (.slice oL L.length capL) L ∧ Below w.heap.size w w2)
      case atStart => exact ⟨0, by omega, rfl, by have h9 := Hown1.out; rw [show D.length = (openN O.vs t (leastOf O.ms) q).length from by rw [← hDD, List.length_map]] at h9; rw [List.take_zero, List.filter_nil, List.map_nil, List.append_nil]; exact h9, HL.out, hb.trans (hb1.mono hb.size)⟩
      case round =>
        obtain ⟨p, hp, rfl, hown2, hL2, hb2⟩ := hrel
        have Hp := Lib.hid hp
        have hl2 : (D ++ (((L.take p).filter fun s => !O.vs[q].shut s (leastOf O.ms)).map fun s => (⟨q, k, s⟩ : Cell))).length ≤ 320 := by
          rw [List.length_append, List.length_map]
          have := List.length_filter_le (fun s => !O.vs[q].shut s (leastOf O.ms)) (L.take p)
          rw [List.length_take] at this
          omega
        obtain ⟨o2, cap2, rfl, hcap2, _, hov2, hun2⟩ := hown2.sl fun _ => rfl
        have Hown2 := Lib.hid hown2
        have HL2 := Lib.hid hL2
        have Hop2 := Lib.hid (H.out.below hb2)
        have Hl2 := Lib.hid hl2
        clear hp hown2 hL2 hl2
        by_cases hlp : p < L.length
        · obtain ⟨_, _, eL, _, hLs2, _, _⟩ := HL2.out.sl fun _ => rfl
          cases eL
          obtain ⟨lb, lo, rfl, hlb, e0⟩ := hLs2.at_i64 hlp
          have hbd := hLb L[p] (List.getElem_mem hlp)
          have hfl := HF.out p hlp
          have hclp := fun W hW => hcl q L[p] W hW hlq (by omega) (by omega)
          rw [hsq L[p] hlq] at hclp
          have Hfl := Lib.hid hfl
          clear hfl hLs2
          generalize L[p] = s at *
          have hb3 : Below wr.heap.size wr (wr.alloc (.cells #[.int .i64 q, .string k, .int .i64 s] 51)) := (Below.refl _ _).alloc (Nat.le_refl _) _
          have Hop3 := Lib.hid (Hop2.out.below hb3)
          go_wp2_with fail
          refine (hclp _ Hop3.out).mono ?_
          rintro e w3 ⟨rfl, hb4⟩
          have hz3 := hb4.size
          simp at hz3
          have hb5 : Below wr.heap.size wr w3 := hb3.trans (hb4.mono (by simp))
          have e5 : ∀ off, w3.cell? ⟨wr.heap.size, off, none⟩ = (wr.alloc (.cells #[.int .i64 q, .string k, .int .i64 s] 51)).cell? ⟨wr.heap.size, off, none⟩ := fun off => hb4.cell (by simp)
          have e50 : w3.cell? ⟨wr.heap.size, 0, none⟩ = some (.int .i64 q) := by rw [e5]; go_simp
          have e51 : w3.cell? ⟨wr.heap.size, 1, none⟩ = some (.string k) := by rw [e5]; go_simp
          have e52 : w3.cell? ⟨wr.heap.size, 2, none⟩ = some (.int .i64 s) := by rw [e5]; go_simp
          have hown3 := Hown2.out.below hb5
          have hL3 := HL2.out.below hb5
          have hb6 : Below w.heap.size w w3 := hb2.trans (hb5.mono hb2.size)
          have Hown3 := Lib.hid hown3
          have HL3 := Lib.hid hL3
          clear hown3 hL3 e5 hb3 Hop3 Hop2 Hown2 HL2
          cases hcs : O.vs[q].shut s (leastOf O.ms)
          · rw [hcs] at Hfl
            have hown4 := Hown3.out.alloc (.cells #[.int .i64 q, .string k, .int .i64 s] 51)
            have hL4 := HL3.out.alloc (.cells #[.int .i64 q, .string k, .int .i64 s] 51)
            have Hown4 := Lib.hid hown4
            have HL4 := Lib.hid hL4
            have hl2 := Hl2.out
            have hb7 : Below w.heap.size w (w3.alloc (.cells #[.int .i64 q, .string k, .int .i64 s] 51)) := hb6.alloc hb6.size _
            have hz6 := hb6.size
            clear hown4 hL4
            have hXl : (D ++ (((L.take p).filter fun s => !O.vs[q].shut s (leastOf O.ms)).map fun s => (⟨q, k, s⟩ : Cell))).length ≤ 320 := hl2
            generalize hX : D ++ (((L.take p).filter fun s => !O.vs[q].shut s (leastOf O.ms)).map fun s => (⟨q, k, s⟩ : Cell)) = X at *
            go_wp2_with (at_builtin; (refine wpList_app st_cell rfl _ _ rfl cellL (fun _ => rfl) cells1_cell w.heap.size _ X rfl Hown4.out (some ⟨w3.heap.size, 0, none⟩) 1 1 [⟨q, k, s⟩] rfl rfl ?c1 ?c2 ?c3 ?c4 ?_))
            case c1 => have h9 := sl_new (sz := 3) (enc := cellL) (⟨q, k, s⟩ : Cell) w3 51 (cs := #[.int .i64 q, .string k, .int .i64 s]) rfl; simpa using h9
            case c2 => first | omega | (simp; omega)
            case c3 => decide
            case c4 => first | omega | (simp; omega)
            intro v' w5 hown6 hgr _
            have hb8 := hb7.grown hgr (by simp; omega) (fun g hg => (Hown4.out.ge hg).1)
            have hL5 := HL4.out.grownNe hgr Hown4.out (by decide)
            have Hown6 := Lib.hid hown6
            have HL5 := Lib.hid hL5
            clear hown6 hL5 HL4 HL3 Hown4 Hown3
            go_wp2_with fail
            go_roundg (L.length - (p + 1))
            case measure => have := Hp.out; omega
            case rel => exact ⟨p + 1, by have := Hp.out; omega, by go_num, by rw [Hfl.out]; simpa [← hX] using Hown6.out, HL5.out, hb8⟩
          · rw [hcs] at Hfl
            go_wp2_with fail
            go_roundg (L.length - (p + 1))
            case measure => have := Hp.out; omega
            case rel => exact ⟨p + 1, by have := Hp.out; omega, by go_num, by rw [Hfl.out]; simpa using Hown3.out, HL3.out, hb6⟩
        · have hpl : p = L.length := by have := Hp.out; omega
          subst hpl
          have hown3 := Hown2.out
          have hfin : (openN O.vs t (leastOf O.ms) (q + 1)).map (setK k) = D ++ (((L.take L.length).filter fun s => !O.vs[q].shut s (leastOf O.ms)).map fun s => (⟨q, k, s⟩ : Cell)) := by
            rw [Hon.out, List.map_append, hDD, List.map_map, List.take_length]
            rfl
          have Hfin := Lib.hid hfin
          clear hfin hown3
          go_wp2_with fail
          go_roundg (O.vs.length - (q + 1))
          case measure => have := Hq.out; omega
          case rel => exact ⟨q + 1, by have := Hq.out; omega, by rw [Hwn.out]; go_num, by go_num, by rw [Hfin.out]; exact Hown2.out, hb2⟩
    · have hql : q = O.vs.length := by have := Hq.out; omega
      subst hql
      have hlate : isLate O.vs t (leastOf O.ms) = (decide (0 < winN O.vs t O.vs.length) && decide (((openN O.vs t (leastOf O.ms) O.vs.length).map (setK k)).length = 0)) := by
        unfold isLate openCells
        congr 1
        cases openN O.vs t (leastOf O.ms) O.vs.length <;> simp
      have Hlate := Lib.hid hlate
      have hll := Hll.out
      have Ho := Lib.hid (show Own 51 3 cellL w.heap.size wr (.slice o ((openN O.vs t (leastOf O.ms) O.vs.length).map (setK k)).length cap) ((openCells O.vs t (leastOf O.ms)).map (setK k)) from Hown.out)
      clear hlate Hown Hll
      generalize ((openN O.vs t (leastOf O.ms) O.vs.length).map (setK k)).length = n at *
      generalize winN O.vs t O.vs.length = m at *
      rcases Nat.eq_zero_or_pos m with hm | hm
      · go_wp2_with fail
        go_ret3
        refine ⟨_, ?_, Ho.out, hb⟩
        rw [Hlate.out]; simp [hm]
      · go_wp2_with fail
        go_ret3
        refine ⟨_, ?_, Ho.out, hb⟩
        rw [Hlate.out]
        have e9 : ((n : Int) == 0) = decide (n = 0) := by rw [Bool.eq_iff_iff]; simp
        rw [e9]
        simp [hm]
end Go.Proofs.Ytheimbhnckaonaa
