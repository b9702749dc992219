/- The walk of the law OperMany. -/
import Derived.Test.YtheimbhnckaonaaManyC
import Derived.Test.YtheimbhnckaonaaPlaysC
import Derived.Laws.BytesArg
set_option linter.unusedVariables false
set_option linter.unusedSimpArgs false
namespace Go.Proofs.Ytheimbhnckaonaa
open Go.RowKit

theorem wi_nat (a n : Int) (hn : 0 < n) : ∃ k : Nat, wi a n = (k : Int) ∧ (k : Int) < n := by
  have := wi_bd a n hn
  exact ⟨(wi a n).toNat, by omega, by omega⟩
theorem tmod_nat (a b : Nat) : (a : Int).tmod (b : Int) = ((a % b : Nat) : Int) := by
  rw [Int.tmod_eq_emod_of_nonneg (by omega), ← Int.natCast_emod]
theorem tdiv_nat (a b : Nat) : (a : Int).tdiv (b : Int) = ((a / b : Nat) : Int) := by
  rw [Int.tdiv_eq_ediv_of_nonneg (by omega), ← Int.natCast_ediv]

theorem sl_two {W0 : World} {t : TypeId} {cs : Array Value} (g : Nat) (hg : g = W0.heap.size) (c d : Cell) (h : cs.toList = cellL c ++ cellL d) (h3 : (cellL c).length = 3) : Sl 3 cellL ((W0.alloc (.cells cs t)).drew) (some ⟨g, 0, none⟩) [c, d] := by
  subst hg
  exact (sl_new2 (enc := cellL) c d W0 t h h3).below (Below.refl _ _).drew
/-- string of one byte. -/
theorem conv1 (W : World) (g m : Nat) (hm : m < 100) (hc : W.cell? ⟨g, 0, none⟩ = some (.int .u8 (97 + (m : Int)))) :
    (convert 61 9 (.slice (some ⟨g, 0, none⟩) 1 1)).run Try.prog W = .ok (.string ⟨#[UInt8.ofNat (97 + m)]⟩) W := by
  have h := run_convert_bytes_arg (P := Try.prog) W 61 5 (by kernel_rfl) (by kernel_rfl) g 0 1 1 [97 + (m : Int)] rfl (fun i hi => by
    obtain rfl : i = 0 := by omega
    simpa using hc) 9 (by kernel_rfl)
  rw [h]
  have e : strOfNums [97 + (m : Int)] = ⟨#[UInt8.ofNat (97 + m)]⟩ := by
    show (⟨#[UInt8.ofNat (97 + (m : Int)).toNat]⟩ : ByteArray) = _
    rw [show (97 + (m : Int)).toNat = 97 + m from by omega]
  rw [e]
theorem m_facts (m z : Nat) (hm : m < 20) (hz : z ≤ 750) : wrap64 (97 + (m : Int)) = 97 + (m : Int) ∧ (97 + (m : Int)) % 256 = 97 + (m : Int) ∧ IntKind.i64.wrap (97 + (m : Int)) = 97 + (m : Int) ∧ wrap64 ((z : Int) * 10) = (z : Int) * 10 ∧ IntKind.i64.wrap ((z : Int) * 10) = (z : Int) * 10 := by
  refine ⟨?_, ?_, ?_, ?_, ?_⟩
  · unfold wrap64; omega
  · omega
  · rw [IntKind.wrap_i64]; omega
  · unfold wrap64; omega
  · rw [IntKind.wrap_i64]; omega
theorem w64_nat (a : Nat) (h : a < 1000000) : IntKind.i64.wrap (a : Int) = (a : Int) ∧ wrap64 (a : Int) = (a : Int) := by
  constructor
  · rw [IntKind.wrap_i64]; omega
  · unfold wrap64; omega

set_option maxRecDepth 100000 in
set_option maxHeartbeats 8000000 in
theorem many_any (n keys turn mark : Int) (w : World) :
    Calls Try.prog 11 #[.int .i64 n, .int .i64 keys, .int .i64 turn, .int .i64 mark] w fun e w' => e = .returned (.bool true) ∧ Below w.heap.size w w' := by
  have hk := fun W => known_any W
  obtain ⟨N, hN, hN2⟩ := wi_nat n 1500 (by decide)
  obtain ⟨k0, hk0, hk02⟩ := wi_nat keys 20 (by decide)
  obtain ⟨t, ht, ht2⟩ := wi_nat turn 1000 (by decide)
  obtain ⟨ks, hks⟩ : ∃ ks : Nat, ks = 1 + k0 := ⟨_, rfl⟩
  have hw1 := fun W => within_any n 1500 W (by decide) (by decide)
  have hw2 := fun W => within_any keys 20 W (by decide) (by decide)
  have hw3 := fun W => within_any turn 1000 W (by decide) (by decide)
  have hw4 := fun x W h1 h2 => within_any mark x W h1 h2
  rw [hN] at hw1
  rw [hk0] at hw2
  rw [ht] at hw3
  have hnew := fun a W hs => new_ok a 2 mVs 1 W hs (by decide) (by decide) (by decide) (by decide) (by decide)
  rw [show mVs.length = 2 from rfl] at hnew
  have Hnew := Lib.hid hnew
  have Hw4 := Lib.hid hw4
  have e1 : 1 + (k0 : Int) = (ks : Int) := by omega
  have e2 : IntKind.i64.wrap (ks : Int) = (ks : Int) := by rw [IntKind.wrap_i64]; omega
  have hN' : N < 1500 := by omega
  have hks0 : 0 < ks := by omega
  have hks2 : ks ≤ 20 := by omega
  clear hN hk0 ht hks hnew hw4 hN2 hk02
  go_enter Try.func11, Try.ntmps11
  go_wp2_with fail
  refine (hk _).mono ?_
  rintro e w0 ⟨rfl, hb0⟩
  have hz0 := hb0.size
  go_wp2_with fail
  refine (hw1 _).mono ?_
  rintro e w' ⟨rfl, rfl⟩
  go_wp2_with fail
  refine (hw2 _).mono ?_
  rintro e w' ⟨rfl, rfl⟩
  have hsv := sl_new2 (enc := viewL) (⟨10, 10, 0⟩ : View) ⟨20, 10, 5⟩ w0 49 (cs := #[.int .i64 10, .int .i64 10, .int .i64 0, .int .i64 20, .int .i64 10, .int .i64 5]) rfl rfl
  go_wp2_with fail
  refine (Hnew.out _ _ hsv).mono ?_
  rintro e w1 ⟨b, rfl, hop1, hb1, a1, a2, a3, a4⟩
  simp at a1 a2 a3
  have hb01 : Below w.heap.size w w1 := ((hb0.alloc (by omega) _).trans (hb1.mono (by simp; omega)))
  have hz1 := hb01.size
  have nb : w.heap.size ≤ b.bl ∧ w.heap.size ≤ b.br := ⟨by omega, by omega⟩
  have HOP := Lib.hid hop1
  clear hk hw1 hw2 hsv hop1 hb0 hb1 a1 a2 a3 a4 e1 Hnew
  go_wp2_with fail
  go_loopg [11] N (fun q i wr => ∃ (j : Nat) (O : Op14), j + q = N ∧ i = .int .i64 j ∧ IsOper wr b O ∧ ManyI N t ks j O ∧ Below w.heap.size w wr)
  case atStart => exact ⟨0, _, by omega, rfl, HOP.out, ⟨rfl, rfl, rfl, fun c hc => by cases hc⟩, hb01⟩
  case round =>
    obtain ⟨j, O, hj, rfl, hop, hM, hb⟩ := hrel
    have Hj := Lib.hid hj
    have HOP2 := Lib.hid hop
    have HM := Lib.hid hM
    have hzr := hb.size
    clear hj hop hM HOP
    by_cases hlt : j < N
    · have hst := many_step HM.out hN' hlt hks0 hks2
      have hpl : mP N t j < N := mP_lt (by omega)
      have hr1 : ((j : Int) * 7919 + (t : Int)).tmod (N : Int) = ((mP N t j : Nat) : Int) := by
        have e : ((j : Int) * 7919 + (t : Int)) = ((j * 7919 + t : Nat) : Int) := by omega
        rw [e, tmod_nat]
        rfl
      have HST := Lib.hid hst
      have hNe : ¬ (N : Int) = 0 := by omega
      generalize hp : mP N t j = p at *
      have HP := Lib.hid hp
      clear hst hp
      go_wp2_with fail
      refine (hw3 _).mono ?_
      rintro e w' ⟨rfl, rfl⟩
      obtain ⟨p2, hp2⟩ : ∃ p2, p2 = p % 2 := ⟨_, rfl⟩
      obtain ⟨h, hh⟩ : ∃ h, h = p / 2 := ⟨_, rfl⟩
      obtain ⟨m, hm⟩ : ∃ m, m = h % ks := ⟨_, rfl⟩
      obtain ⟨z, hz⟩ : ∃ z, z = h / ks := ⟨_, rfl⟩
      have f1 : (p : Int).tmod 2 = (p2 : Int) := by rw [hp2]; exact tmod_nat p 2
      have f2 : (p : Int).tdiv 2 = (h : Int) := by rw [hh]; exact tdiv_nat p 2
      have f3 : (h : Int).tmod (ks : Int) = (m : Int) := by rw [hm]; exact tmod_nat h ks
      have f4 : (h : Int).tdiv (ks : Int) = (z : Int) := by rw [hz]; exact tdiv_nat h ks
      have hm20 : m < 20 := by have := Nat.mod_lt h hks0; omega
      have hz750 : z ≤ 750 := by have := Nat.div_le_self h ks; omega
      have hh1 : h < 1000000 := by rw [hh]; exact Nat.lt_of_le_of_lt (Nat.div_le_self p 2) (by omega)
      have hz1 : z < 1000000 := Nat.lt_of_le_of_lt hz750 (by decide)
      have hm1 : m < 1000000 := Nat.lt_trans hm20 (by decide)
      have hp1 : p2 < 1000000 := by rw [hp2]; exact Nat.lt_trans (Nat.mod_lt p (by decide)) (by decide)
      have f5 : IntKind.u8.wrap (97 + (m : Int)) = 97 + (m : Int) := by rw [IntKind.wrap_u8]; omega
      have hke : ¬ (ks : Int) = 0 := by omega
      have hke2 : ¬ ks = 0 := by omega
      obtain ⟨g1, g2⟩ := w64_nat h hh1
      obtain ⟨g3, g4⟩ := w64_nat z hz1
      obtain ⟨g5, g6⟩ := w64_nat p2 hp1
      obtain ⟨g7, g8⟩ := w64_nat m hm1
      obtain ⟨g9, g10, g11, g12, g13⟩ := m_facts m z hm20 hz750
      have hm100 : m < 100 := Nat.lt_trans hm20 (by decide)
      have Hcv := Lib.hid (fun W g hc => conv1 W g m hm100 hc)
      have hce : mC ks p = ⟨p2, ⟨#[97 + UInt8.ofNat m]⟩, (z : Int) * 10⟩ := by unfold mC; rw [← hp2, ← hh, ← hm, ← hz]; simp
      have HCE := Lib.hid hce
      clear hp2 hh hm hz hce
      go_wp2_with fail
      have hbD := (Below.refl wr.heap.size wr).drew
      refine wp_region_held_drew (S := fun W => Below wr.heap.size wr W) (by kernel_rfl) hbD (fun hHeld => ?_)
      refine wpAnyH_takeD (i := 0) (oi := _) (d := 48) (v := ?vm0) rfl (by kernel_rfl) (by kernel_rfl) (by kernel_rfl) (by kernel_rfl) (fun _ _ _ h => h) (Or.inl ⟨by kernel_rfl, ?ym0⟩) (by assumption) ?rm0
      case ym0 =>
        intro w' hSw
        try dsimp only at hSw
        go_simp
        try with_reducible rfl
      try simp only [Act.put, List.setIfInBounds_toArray, List.set_cons_zero, List.set_cons_succ]
      refine wpAnyH_takeD (i := 1) (oi := _) (d := 49) (v := ?vm1) rfl (by kernel_rfl) (by kernel_rfl) (by kernel_rfl) (by kernel_rfl) (fun _ _ _ h => h) (Or.inl ⟨by kernel_rfl, ?ym1⟩) (by assumption) ?rm1
      case ym1 =>
        intro w' hSw
        try dsimp only at hSw
        go_simp
        try with_reducible rfl
      try simp only [Act.put, List.setIfInBounds_toArray, List.set_cons_zero, List.set_cons_succ]
      refine wpAnyH_takeD (i := 2) (oi := _) (d := 50) (v := ?vm2) rfl (by kernel_rfl) (by kernel_rfl) (by kernel_rfl) (by kernel_rfl) (fun _ _ _ h => h) (Or.inl ⟨by kernel_rfl, ?ym2⟩) (by assumption) ?rm2
      case ym2 =>
        intro w' hSw
        try dsimp only at hSw
        go_simp
        try with_reducible rfl
      try simp only [Act.put, List.setIfInBounds_toArray, List.set_cons_zero, List.set_cons_succ]
      refine wpAnyH_takeD (i := 3) (oi := _) (d := 51) (v := ?vm3) rfl (by kernel_rfl) (by kernel_rfl) (by kernel_rfl) (by kernel_rfl) (fun _ _ _ h => h) (Or.inl ⟨by kernel_rfl, ?ym3⟩) (by assumption) ?rm3
      case ym3 =>
        intro w' hSw
        try dsimp only at hSw
        go_simp
        try with_reducible rfl
      try simp only [Act.put, List.setIfInBounds_toArray, List.set_cons_zero, List.set_cons_succ]
      refine wpAnyH_takeD (i := 4) (oi := _) (d := 52) (v := ?vm4) rfl (by kernel_rfl) (by kernel_rfl) (by kernel_rfl) (by kernel_rfl) (fun _ _ _ h => h) (Or.inl ⟨by kernel_rfl, ?ym4⟩) (by assumption) ?rm4
      case ym4 =>
        intro w' hSw
        try dsimp only at hSw
        go_simp
        try with_reducible rfl
      try simp only [Act.put, List.setIfInBounds_toArray, List.set_cons_zero, List.set_cons_succ]
      refine wpAnyH_takeD (i := 5) (oi := _) (d := 53) (v := ?vm5) rfl (by kernel_rfl) (by kernel_rfl) (by kernel_rfl) (by kernel_rfl) (fun _ _ _ h => h) (Or.inl ⟨by kernel_rfl, ?ym5⟩) (by assumption) ?rm5
      case ym5 =>
        intro w' hSw
        try dsimp only at hSw
        go_simp
        try with_reducible rfl
      try simp only [Act.put, List.setIfInBounds_toArray, List.set_cons_zero, List.set_cons_succ]
      refine wpAnyH_takeD (i := 6) (oi := _) (d := 54) (v := ?vm6) rfl (by kernel_rfl) (by kernel_rfl) (by kernel_rfl) (by kernel_rfl) (fun _ _ _ h => h) (Or.inl ⟨by kernel_rfl, ?ym6⟩) (by assumption) ?rm6
      case ym6 =>
        intro w' hSw
        try dsimp only at hSw
        go_simp
        try with_reducible rfl
      try simp only [Act.put, List.setIfInBounds_toArray, List.set_cons_zero, List.set_cons_succ]
      refine wpAnyH_takeD (i := 7) (oi := _) (d := 55) (v := ?vm7) rfl (by kernel_rfl) (by kernel_rfl) (by kernel_rfl) (by kernel_rfl) (fun _ _ _ h => h) (Or.inl ⟨by kernel_rfl, ?ym7⟩) (by assumption) ?rm7
      case ym7 =>
        intro w' hSw
        try dsimp only at hSw
        go_simp
        try with_reducible rfl
      try simp only [Act.put, List.setIfInBounds_toArray, List.set_cons_zero, List.set_cons_succ]
      refine wpAnyH_takeD (i := 10) (oi := _) (d := 58) (v := ?vm10) rfl (by kernel_rfl) (by kernel_rfl) (by kernel_rfl) (by kernel_rfl) (fun _ _ _ h => h) (Or.inl ⟨by kernel_rfl, ?ym10⟩) (by assumption) ?rm10
      case ym10 =>
        intro w' hSw
        try dsimp only at hSw
        go_simp
        try with_reducible rfl
      try simp only [Act.put, List.setIfInBounds_toArray, List.set_cons_zero, List.set_cons_succ]
      refine wpAnyH_takeD (i := 11) (oi := _) (d := 59) (v := ?vm11) rfl (by kernel_rfl) (by kernel_rfl) (by kernel_rfl) (by kernel_rfl) (fun _ _ _ h => h) (Or.inl ⟨by kernel_rfl, ?ym11⟩) (by assumption) ?rm11
      case ym11 =>
        intro w' hSw
        try dsimp only at hSw
        go_simp
        try with_reducible rfl
      try simp only [Act.put, List.setIfInBounds_toArray, List.set_cons_zero, List.set_cons_succ]
      refine wpAnyH_takeD (i := 12) (oi := _) (d := 60) (v := ?vm12) rfl (by kernel_rfl) (by kernel_rfl) (by kernel_rfl) (by kernel_rfl) (fun _ _ _ h => h) (Or.inl ⟨by kernel_rfl, ?ym12⟩) (by assumption) ?rm12
      case ym12 =>
        intro w' hSw
        try dsimp only at hSw
        go_simp
        try with_reducible rfl
      try simp only [Act.put, List.setIfInBounds_toArray, List.set_cons_zero, List.set_cons_succ]
      refine wpAnyH_takeD (i := 13) (oi := _) (d := 61) (v := ?vm13) rfl (by kernel_rfl) (by kernel_rfl) (by kernel_rfl) (by kernel_rfl) (fun _ _ _ h => h) (Or.inl ⟨by kernel_rfl, ?ym13⟩) (by assumption) ?rm13
      case ym13 =>
        intro w' hSw
        try dsimp only at hSw
        go_simp
        try with_reducible rfl
      try simp only [Act.put, List.setIfInBounds_toArray, List.set_cons_zero, List.set_cons_succ]
      refine wpAnyH_takeD (i := 14) (oi := _) (d := 62) (v := ?vm14) rfl (by kernel_rfl) (by kernel_rfl) (by kernel_rfl) (by kernel_rfl) (fun _ _ _ h => h) (Or.inl ⟨by kernel_rfl, ?ym14⟩) (by assumption) ?rm14
      case ym14 =>
        intro w' hSw
        try dsimp only at hSw
        go_simp
        try with_reducible rfl
      try simp only [Act.put, List.setIfInBounds_toArray, List.set_cons_zero, List.set_cons_succ]
      refine wpAnyH_ready (rs := [8, 16]) (by kernel_rfl) (by simp) ?_
      refine AllReadyH.cons (o := _) rfl (fun K hK => ?_) (AllReadyH.cons (o := _) rfl (fun K hK => ?_) AllReadyH.nil)
      · go_simp
        refine hK.out _ _ ?bA1 (fun _ => ?_)
        case bA1 => (repeat' (first | exact Below.refl _ _ | refine Below.drew ?_ | refine Below.setCell ?_ ?_ _ | refine Below.alloc ?_ ?_ _ | (simp; done) | (simp; omega) | omega))
        clear hK K
        try simp only [Act.put, List.setIfInBounds_toArray, List.set_cons_zero, List.set_cons_succ]
        have hS2 : (fun W => Below wr.heap.size wr W ∧ W.cell? ⟨wr.heap.size, 0, none⟩ = some (.int .u8 (97 + (m : Int)))) (wr.alloc (.cells #[.int .u8 (97 + (m : Int))] 5)).drew := ⟨by assumption, by go_simp⟩
        refine wpAnyH_strong (S' := fun W => Below wr.heap.size wr W ∧ W.cell? ⟨wr.heap.size, 0, none⟩ = some (.int .u8 (97 + (m : Int)))) (fun _ h => h.1) _ _ _ _ ?_
        refine wpAnyH_takeD (i := 9) (oi := _) (d := 57) (v := ?vA9) rfl (by kernel_rfl) (by kernel_rfl) (by kernel_rfl) (by kernel_rfl) (fun _ _ _ h => h) (Or.inl ⟨by kernel_rfl, ?yA9⟩) (by assumption) ?rA9
        case yA9 =>
          intro w' hSw
          have hcv := Hcv.out w' _ hSw.2
          go_simp
          try with_reducible rfl
        try simp only [Act.put, List.setIfInBounds_toArray, List.set_cons_zero, List.set_cons_succ]
        refine wpAnyH_takeD (i := 15) (oi := _) (d := 63) (v := ?vA15) rfl (by kernel_rfl) (by kernel_rfl) (by kernel_rfl) (by kernel_rfl) (fun _ _ _ h => h) (Or.inl ⟨by kernel_rfl, ?yA15⟩) (by assumption) ?rA15
        case yA15 =>
          intro w' hSw
          try dsimp only at hSw
          go_simp
          try with_reducible rfl
        try simp only [Act.put, List.setIfInBounds_toArray, List.set_cons_zero, List.set_cons_succ]
        refine wpAnyH_ready (rs := [16]) (by kernel_rfl) (by simp) ?_
        refine AllReadyH.cons (o := _) rfl (fun K hK => ?_) AllReadyH.nil
        go_simp
        refine hK.out _ _ ⟨?bA2, ?cA2⟩ (fun _ => ?_)
        case bA2 => (repeat' (first | exact Below.refl _ _ | refine Below.drew ?_ | refine Below.setCell ?_ ?_ _ | refine Below.alloc ?_ ?_ _ | (simp; done) | (simp; omega) | omega))
        case cA2 => go_simp
        clear hK K
        try simp only [Act.put, List.setIfInBounds_toArray, List.set_cons_zero, List.set_cons_succ]
        refine wpAnyH_ready (rs := [17]) (by kernel_rfl) (by simp) ?_
        refine AllReadyH.cons (o := _) rfl (fun K hK => ?_) AllReadyH.nil
        go_simp
        refine hK.out _ _ ⟨?bA3, ?cA3⟩ (fun _ => ?_)
        case bA3 => (repeat' (first | exact Below.refl _ _ | refine Below.drew ?_ | refine Below.setCell ?_ ?_ _ | refine Below.alloc ?_ ?_ _ | (simp; done) | (simp; omega) | omega))
        case cA3 => go_simp
        clear hK K
        try simp only [Act.put, List.setIfInBounds_toArray, List.set_cons_zero, List.set_cons_succ]
        refine wpAnyH_done (by kernel_rfl) ?_ _
        clear hS2
        clear hbD g1 g2 g3 g4 g5 g6 g7 g8 g9 g10 g11 g12 g13 f1 f2 f3 f4 f5 Hcv hHeld
        have hw := fun W a hop hsl => wrote_all b O a 2 [mC ks p, mC ks p] W hop hsl (by show 2 ≤ _; omega)
        rw [HST.out.1] at hw
        have Hw := Lib.hid hw
        clear hw
        go_wp2_with fail
        refine (Hw.out _ _ (HOP2.out.below ?bRR) (sl_two _ (by simp) _ _ (by rw [HCE.out]; rfl) rfl)).mono ?_
        case bRR => (repeat' (first | exact Below.refl _ _ | refine Below.drew ?_ | refine Below.setCell ?_ ?_ _ | refine Below.alloc ?_ ?_ _ | (simp; done) | (simp; omega) | omega))
        rintro e w4 ⟨rfl, ho4, hc4⟩
        have Ho4 := Lib.hid ho4
        have hb4 : Below w.heap.size w w4 := by
          refine Below.op (hb.trans (Below.mono (B := wr.heap.size) ?_ hzr)) hc4 (Nat.le_refl _) (by simp; omega)
          (repeat' (first | exact Below.refl _ _ | refine Below.drew ?_ | refine Below.setCell ?_ ?_ _ | refine Below.alloc ?_ ?_ _ | (simp; done) | (simp; omega) | omega))
        clear ho4 hc4 Hw HCE
        go_wp2_with fail
        go_roundg (N - (j + 1))
        case measure => have := Hj.out; omega
        case rel => exact ⟨j + 1, _, by have := Hj.out; omega, by go_num, Ho4.out, by rw [← HP.out]; exact HP.out ▸ HST.out.2, hb4⟩
      · go_simp
        refine hK.out _ _ ?bB1 (fun _ => ?_)
        case bB1 => (repeat' (first | exact Below.refl _ _ | refine Below.drew ?_ | refine Below.setCell ?_ ?_ _ | refine Below.alloc ?_ ?_ _ | (simp; done) | (simp; omega) | omega))
        clear hK K
        try simp only [Act.put, List.setIfInBounds_toArray, List.set_cons_zero, List.set_cons_succ]
        refine wpAnyH_ready (rs := [8]) (by kernel_rfl) (by simp) ?_
        refine AllReadyH.cons (o := _) rfl (fun K hK => ?_) AllReadyH.nil
        go_simp
        refine hK.out _ _ ?bB2 (fun _ => ?_)
        case bB2 => (repeat' (first | exact Below.refl _ _ | refine Below.drew ?_ | refine Below.setCell ?_ ?_ _ | refine Below.alloc ?_ ?_ _ | (simp; done) | (simp; omega) | omega))
        clear hK K
        try simp only [Act.put, List.setIfInBounds_toArray, List.set_cons_zero, List.set_cons_succ]
        have hS2 : (fun W => Below wr.heap.size wr W ∧ W.cell? ⟨wr.heap.size + 1, 0, none⟩ = some (.int .u8 (97 + (m : Int)))) ((wr.alloc (.cells #[.int .i64 0, .string ⟨#[]⟩, .int .i64 0] 51)).alloc (.cells #[.int .u8 (97 + (m : Int))] 5)).drew := ⟨by assumption, by go_simp⟩
        refine wpAnyH_strong (S' := fun W => Below wr.heap.size wr W ∧ W.cell? ⟨wr.heap.size + 1, 0, none⟩ = some (.int .u8 (97 + (m : Int)))) (fun _ h => h.1) _ _ _ _ ?_
        refine wpAnyH_takeD (i := 9) (oi := _) (d := 57) (v := ?vB9) rfl (by kernel_rfl) (by kernel_rfl) (by kernel_rfl) (by kernel_rfl) (fun _ _ _ h => h) (Or.inl ⟨by kernel_rfl, ?yB9⟩) (by assumption) ?rB9
        case yB9 =>
          intro w' hSw
          have hcv := Hcv.out w' _ hSw.2
          go_simp
          try with_reducible rfl
        try simp only [Act.put, List.setIfInBounds_toArray, List.set_cons_zero, List.set_cons_succ]
        refine wpAnyH_takeD (i := 15) (oi := _) (d := 63) (v := ?vB15) rfl (by kernel_rfl) (by kernel_rfl) (by kernel_rfl) (by kernel_rfl) (fun _ _ _ h => h) (Or.inl ⟨by kernel_rfl, ?yB15⟩) (by assumption) ?rB15
        case yB15 =>
          intro w' hSw
          try dsimp only at hSw
          go_simp
          try with_reducible rfl
        try simp only [Act.put, List.setIfInBounds_toArray, List.set_cons_zero, List.set_cons_succ]
        refine wpAnyH_ready (rs := [17]) (by kernel_rfl) (by simp) ?_
        refine AllReadyH.cons (o := _) rfl (fun K hK => ?_) AllReadyH.nil
        go_simp
        refine hK.out _ _ ⟨?bB3, ?cB3⟩ (fun _ => ?_)
        case bB3 => (repeat' (first | exact Below.refl _ _ | refine Below.drew ?_ | refine Below.setCell ?_ ?_ _ | refine Below.alloc ?_ ?_ _ | (simp; done) | (simp; omega) | omega))
        case cB3 => go_simp
        clear hK K
        try simp only [Act.put, List.setIfInBounds_toArray, List.set_cons_zero, List.set_cons_succ]
        refine wpAnyH_done (by kernel_rfl) ?_ _
        clear hS2
        clear hbD g1 g2 g3 g4 g5 g6 g7 g8 g9 g10 g11 g12 g13 f1 f2 f3 f4 f5 Hcv hHeld
        have hw := fun W a hop hsl => wrote_all b O a 2 [mC ks p, mC ks p] W hop hsl (by show 2 ≤ _; omega)
        rw [HST.out.1] at hw
        have Hw := Lib.hid hw
        clear hw
        go_wp2_with fail
        refine (Hw.out _ _ (HOP2.out.below ?bRR) (sl_two _ (by simp) _ _ (by rw [HCE.out]; rfl) rfl)).mono ?_
        case bRR => (repeat' (first | exact Below.refl _ _ | refine Below.drew ?_ | refine Below.setCell ?_ ?_ _ | refine Below.alloc ?_ ?_ _ | (simp; done) | (simp; omega) | omega))
        rintro e w4 ⟨rfl, ho4, hc4⟩
        have Ho4 := Lib.hid ho4
        have hb4 : Below w.heap.size w w4 := by
          refine Below.op (hb.trans (Below.mono (B := wr.heap.size) ?_ hzr)) hc4 (Nat.le_refl _) (by simp; omega)
          (repeat' (first | exact Below.refl _ _ | refine Below.drew ?_ | refine Below.setCell ?_ ?_ _ | refine Below.alloc ?_ ?_ _ | (simp; done) | (simp; omega) | omega))
        clear ho4 hc4 Hw HCE
        go_wp2_with fail
        go_roundg (N - (j + 1))
        case measure => have := Hj.out; omega
        case rel => exact ⟨j + 1, _, by have := Hj.out; omega, by go_num, Ho4.out, by rw [← HP.out]; exact HP.out ▸ HST.out.2, hb4⟩
    · have hjN : j = N := by have := Hj.out; omega
      have HMN := Lib.hid (show ManyI N t ks N O from hjN ▸ HM.out)
      clear hjN HM
      have hlen := HMN.out.len
      have hlv := live_any b O wr HOP2.out (by omega)
      go_wp2_with fail
      refine hlv.mono ?_
      rintro e w2 ⟨v2, rfl, hx2, hb2⟩
      have hz2 := hb2.size
      obtain ⟨oa, capa, rfl, _, hsa, _, _⟩ := hx2.sl (fun _ => rfl)
      have HOP3 := Lib.hid (HOP2.out.below hb2)
      have hr1 := rises_any oa capa O.live w2 hsa (by omega) HOP2.out.rise
      have hne1 : ((O.live.length : Int) != (N : Int)) = false := by simp [hlen]
      have HX2 := Lib.hid hx2
      have Hlen := Lib.hid hlen
      clear hlv hx2 hsa hlen
      go_wp2_with fail
      refine hr1.mono ?_
      rintro e w3 ⟨rfl, hb3⟩
      have hz3 := hb3.size
      have HX3 := Lib.hid (HX2.out.below hb3)
      have HOP4 := Lib.hid (HOP3.out.below hb3)
      have hbw3 : Below w.heap.size w w3 := hb.trans ((hb2.trans (hb3.mono hz2)).mono hzr)
      obtain ⟨at0, hat, hat2⟩ := wi_nat mark ((N : Int) * 5 + 40) (by omega)
      have hwi := Hw4.out ((N : Int) * 5 + 40) w3 (by omega) (by omega)
      rw [hat] at hwi
      obtain ⟨m1, m2, m3, m4⟩ := many_mark HMN.out (at0 : Int) (by omega) (by omega)
      have hmk := mark_all b O 0 (at0 : Int) w3 HOP4.out (by have := Hlen.out; omega)
      rw [m1] at hmk
      have hrX : Rise (markX O 0 (at0 : Int)) := by
        have h := rise_doX (O := O) HOP2.out.rise 2 0 (at0 : Int)
        unfold doX at h
        rwa [if_pos rfl] at h
      have hXs : ∀ c ∈ markX O 0 (at0 : Int), cellOk O.vs c := fun c hc => HOP2.out.may c (went_ok (O := O) 2 0 ByteArray.empty (at0 : Int) 0 [] (by unfold doX; rw [if_pos rfl]; exact hc)).1
      have M2 := Lib.hid m2
      have M3 := Lib.hid m3
      have HXs := Lib.hid hXs
      generalize markX O 0 (at0 : Int) = X at *
      generalize markO O 0 (at0 : Int) = O2 at *
      clear hr1 hat m1 m2 m3 hXs
      go_wp2_with fail
      refine hwi.mono ?_
      rintro e w' ⟨rfl, rfl⟩
      go_wp2_with fail
      refine hmk.mono ?_
      rintro e w4 ⟨v4, rfl, hx4, ho4, hc4⟩
      have hz4 := hc4.size
      have hltw := HOP2.out.lt
      have hbw4 : Below w.heap.size w w4 := Below.op hbw3 hc4 (Nat.le_refl _) (by simp; omega)
      have HX4 := Lib.hid (HX3.out.chgGe hc4 (by simp; omega))
      have HOP5 := Lib.hid ho4
      obtain ⟨og, capg, rfl, _, _, _, _⟩ := hx4.sl (fun _ => rfl)
      have HG4 := Lib.hid hx4
      have hlv := live_any b O2 w4 HOP5.out (by omega)
      clear hwi hmk hx4 ho4
      go_wp2_with fail
      refine hlv.mono ?_
      rintro e w5 ⟨v5, rfl, hx5, hb5⟩
      have hz5 := hb5.size
      have HOP6 := Lib.hid (HOP5.out.below hb5)
      obtain ⟨ol, capl, rfl, _, hsl5, _, _⟩ := hx5.sl (fun _ => rfl)
      have hsg5 := (HG4.out.below hb5).sl0 (fun _ => rfl)
      have hsa5 := (HX4.out.below hb5).sl0 (fun _ => rfl)
      have hne2 : ((X.length : Int) + (O2.live.length : Int) != (N : Int)) = false := by simp; omega
      have hr1 := rises_any og capg X w5 hsg5 (by omega) hrX
      have hbw5 : Below w.heap.size w w5 := hbw4.trans (hb5.mono (by omega))
      clear hlv hx5
      go_wp2_with fail
      refine hr1.mono ?_
      rintro e w6 ⟨rfl, hb6⟩
      have hz6 := hb6.size
      have hr2 := rises_any ol capl O2.live w6 (hsl5.below hb6) (by omega) HOP6.out.rise
      clear hr1
      go_wp2_with fail
      refine hr2.mono ?_
      rintro e w7 ⟨rfl, hb7⟩
      have hz7 := hb7.size
      have hb57 := hb6.trans (hb7.mono hz6)
      have hbw7 : Below w.heap.size w w7 := hbw5.trans (hb57.mono hbw5.size)
      have hsg := hsg5.below hb57
      have hsl := hsl5.below hb57
      have hsa := hsa5.below hb57
      have HOP7 := Lib.hid (HOP6.out.below hb57)
      have hbb := Below.refl w7.heap.size w7
      clear hr2 hsg5 hsl5 hsa5 hb6 hb7 hb57 hb5 hc4 hb2 hb3 hne1 hne2 HOP3 HOP4 HOP5 HOP6 HX2 HX3 HX4 HG4 hb
      go_wp2_with fail
      go_loopg [18] X.length (fun q i wr => ∃ k : Nat, k + q = X.length ∧ i = .int .i64 k ∧ Below w7.heap.size w7 wr)
      case atStart => exact ⟨0, by omega, rfl, hbb⟩
      case round =>
        clear hbb
        obtain ⟨k, hk, rfl, hb⟩ := hrel
        have Hk := Lib.hid hk
        clear hk
        by_cases hlk : k < X.length
        · obtain ⟨nb', no, rfl, hnb, n0, n1, n2⟩ := hsg.at3 hlk rfl
          have hin := List.getElem_mem hlk
          obtain ⟨vi, hvi, hcv, hky, hs1, hs2, hmd⟩ := HXs.out _ hin
          have hE := fun W => lawEnd_any X[k].v X[k].k X[k].s W (by omega) (by omega)
          rw [show (⟨X[k].v, X[k].k, X[k].s⟩ : Cell) = X[k] from rfl] at hE
          have hle := M2.out _ hin
          generalize mEnd X[k] = en at *
          have hng : ¬ (at0 : Int) < en := by omega
          have d0 := (hb.cell (p := ⟨nb', _, none⟩) hnb).trans n0
          have d1 := (hb.cell (p := ⟨nb', _, none⟩) hnb).trans n1
          have d2 := (hb.cell (p := ⟨nb', _, none⟩) hnb).trans n2
          clear n0 n1 n2 hin hcv hky hmd
          generalize X[k].v = c1 at *
          generalize X[k].k = c2 at *
          generalize X[k].s = c3 at *
          go_wp2_with fail
          refine (hE _).mono ?_
          rintro e w8 ⟨rfl, hb8⟩
          go_wp2_with fail
          go_roundg (X.length - (k + 1))
          case measure => have := Hk.out; omega
          case rel => exact ⟨k + 1, by have := Hk.out; omega, by go_num, hb.trans (hb8.mono hb.size)⟩
        · have hbb := hb
          go_wp2_with fail
          go_loopg [19] O2.live.length (fun q i wr => ∃ k : Nat, k + q = O2.live.length ∧ i = .int .i64 k ∧ Below w7.heap.size w7 wr)
          case atStart => exact ⟨0, by omega, rfl, hbb⟩
          case round =>
            clear hbb hb Hk hlk
            obtain ⟨k, hk, rfl, hb⟩ := hrel
            have Hk := Lib.hid hk
            clear hk
            by_cases hlk : k < O2.live.length
            · obtain ⟨nb', no, rfl, hnb, n0, n1, n2⟩ := hsl.at3 hlk rfl
              have hin := List.getElem_mem hlk
              obtain ⟨vi, hvi, hcv, hky, hs1, hs2, hmd⟩ := HOP7.out.may _ hin
              have hE := fun W => lawEnd_any O2.live[k].v O2.live[k].k O2.live[k].s W (by omega) (by omega)
              rw [show (⟨O2.live[k].v, O2.live[k].k, O2.live[k].s⟩ : Cell) = O2.live[k] from rfl] at hE
              have hle := M3.out _ hin
              generalize mEnd O2.live[k] = en at *
              have hng : ¬ en ≤ (at0 : Int) := by omega
              have d0 := (hb.cell (p := ⟨nb', _, none⟩) hnb).trans n0
              have d1 := (hb.cell (p := ⟨nb', _, none⟩) hnb).trans n1
              have d2 := (hb.cell (p := ⟨nb', _, none⟩) hnb).trans n2
              clear n0 n1 n2 hin hcv hky hmd
              generalize O2.live[k].v = c1 at *
              generalize O2.live[k].k = c2 at *
              generalize O2.live[k].s = c3 at *
              go_wp2_with fail
              refine (hE _).mono ?_
              rintro e w8 ⟨rfl, hb8⟩
              go_wp2_with fail
              go_roundg (O2.live.length - (k + 1))
              case measure => have := Hk.out; omega
              case rel => exact ⟨k + 1, by have := Hk.out; omega, by go_num, hb.trans (hb8.mono hb.size)⟩
            · have hbF : Below w.heap.size w wr := hbw7.trans (hb.mono hbw7.size)
              by_cases hN2 : (N : Int) < 2
              · go_wp2_with fail
                refine wp_region_held_drew (S := fun W => Below w.heap.size w W) (by kernel_rfl) hbF.drew (fun hHeld => ?_)
                refine wpAnyH_takeD (i := 0) (oi := _) (d := 141) (v := ?vs0) rfl (by kernel_rfl) (by kernel_rfl) (by kernel_rfl) (by kernel_rfl) (fun _ _ _ h => h) (Or.inl ⟨by kernel_rfl, ?ys0⟩) (by assumption) ?rs0
                case ys0 =>
                  intro w' hSw
                  try dsimp only at hSw
                  go_simp
                  try with_reducible rfl
                try simp only [Act.put, List.setIfInBounds_toArray, List.set_cons_zero, List.set_cons_succ]
                refine wpAnyH_takeD (i := 1) (oi := _) (d := 142) (v := ?vs1) rfl (by kernel_rfl) (by kernel_rfl) (by kernel_rfl) (by kernel_rfl) (fun _ _ _ h => h) (Or.inl ⟨by kernel_rfl, ?ys1⟩) (by assumption) ?rs1
                case ys1 =>
                  intro w' hSw
                  try dsimp only at hSw
                  go_simp
                  try with_reducible rfl
                try simp only [Act.put, List.setIfInBounds_toArray, List.set_cons_zero, List.set_cons_succ]
                refine wpAnyH_takeD (i := 2) (oi := _) (d := 143) (v := ?vs2) rfl (by kernel_rfl) (by kernel_rfl) (by kernel_rfl) (by kernel_rfl) (fun _ _ _ h => h) (Or.inl ⟨by kernel_rfl, ?ys2⟩) (by assumption) ?rs2
                case ys2 =>
                  intro w' hSw
                  try dsimp only at hSw
                  go_simp
                  try with_reducible rfl
                try simp only [Act.put, List.setIfInBounds_toArray, List.set_cons_zero, List.set_cons_succ]
                refine wpAnyH_takeD (i := 3) (oi := _) (d := 144) (v := undef) rfl (by kernel_rfl) (by kernel_rfl) (by kernel_rfl) (by kernel_rfl) (fun _ _ _ h => h) (Or.inr ⟨by kernel_rfl, rfl⟩) (by assumption) ?_
                try simp only [Act.put, List.setIfInBounds_toArray, List.set_cons_zero, List.set_cons_succ]
                refine wpAnyH_takeD (i := 4) (oi := _) (d := 145) (v := undef) rfl (by kernel_rfl) (by kernel_rfl) (by kernel_rfl) (by kernel_rfl) (fun _ _ _ h => h) (Or.inr ⟨by kernel_rfl, rfl⟩) (by assumption) ?_
                try simp only [Act.put, List.setIfInBounds_toArray, List.set_cons_zero, List.set_cons_succ]
                refine wpAnyH_takeD (i := 5) (oi := _) (d := 146) (v := undef) rfl (by kernel_rfl) (by kernel_rfl) (by kernel_rfl) (by kernel_rfl) (fun _ _ _ h => h) (Or.inr ⟨by kernel_rfl, rfl⟩) (by assumption) ?_
                try simp only [Act.put, List.setIfInBounds_toArray, List.set_cons_zero, List.set_cons_succ]
                refine wpAnyH_takeD (i := 6) (oi := _) (d := 147) (v := undef) rfl (by kernel_rfl) (by kernel_rfl) (by kernel_rfl) (by kernel_rfl) (fun _ _ _ h => h) (Or.inr ⟨by kernel_rfl, rfl⟩) (by assumption) ?_
                try simp only [Act.put, List.setIfInBounds_toArray, List.set_cons_zero, List.set_cons_succ]
                refine wpAnyH_takeD (i := 7) (oi := _) (d := 148) (v := undef) rfl (by kernel_rfl) (by kernel_rfl) (by kernel_rfl) (by kernel_rfl) (fun _ _ _ h => h) (Or.inr ⟨by kernel_rfl, rfl⟩) (by assumption) ?_
                try simp only [Act.put, List.setIfInBounds_toArray, List.set_cons_zero, List.set_cons_succ]
                refine wpAnyH_takeD (i := 8) (oi := _) (d := 149) (v := undef) rfl (by kernel_rfl) (by kernel_rfl) (by kernel_rfl) (by kernel_rfl) (fun _ _ _ h => h) (Or.inr ⟨by kernel_rfl, rfl⟩) (by assumption) ?_
                try simp only [Act.put, List.setIfInBounds_toArray, List.set_cons_zero, List.set_cons_succ]
                refine wpAnyH_takeD (i := 9) (oi := _) (d := 150) (v := undef) rfl (by kernel_rfl) (by kernel_rfl) (by kernel_rfl) (by kernel_rfl) (fun _ _ _ h => h) (Or.inr ⟨by kernel_rfl, rfl⟩) (by assumption) ?_
                try simp only [Act.put, List.setIfInBounds_toArray, List.set_cons_zero, List.set_cons_succ]
                refine wpAnyH_takeD (i := 10) (oi := _) (d := 151) (v := undef) rfl (by kernel_rfl) (by kernel_rfl) (by kernel_rfl) (by kernel_rfl) (fun _ _ _ h => h) (Or.inr ⟨by kernel_rfl, rfl⟩) (by assumption) ?_
                try simp only [Act.put, List.setIfInBounds_toArray, List.set_cons_zero, List.set_cons_succ]
                refine wpAnyH_takeD (i := 11) (oi := _) (d := 152) (v := ?vs11) rfl (by kernel_rfl) (by kernel_rfl) (by kernel_rfl) (by kernel_rfl) (fun _ _ _ h => h) (Or.inl ⟨by kernel_rfl, ?ys11⟩) (by assumption) ?rs11
                case ys11 =>
                  intro w' hSw
                  try dsimp only at hSw
                  go_simp
                  try with_reducible rfl
                try simp only [Act.put, List.setIfInBounds_toArray, List.set_cons_zero, List.set_cons_succ]
                refine wpAnyH_takeD (i := 12) (oi := _) (d := 8) (v := ?vs12) rfl (by kernel_rfl) (by kernel_rfl) (by kernel_rfl) (by kernel_rfl) (fun _ _ _ h => h) (Or.inl ⟨by kernel_rfl, ?ys12⟩) (by assumption) ?rs12
                case ys12 =>
                  intro w' hSw
                  try dsimp only at hSw
                  go_simp
                  try with_reducible rfl
                try simp only [Act.put, List.setIfInBounds_toArray, List.set_cons_zero, List.set_cons_succ]
                refine wpAnyH_done (by kernel_rfl) ?_ _
                go_wp2_with fail
                go_ret
                exact ⟨rfl, hbF.drew⟩
              · have q0 : 0 < O.live.length := by have := Hlen.out; omega
                have q1 : 1 < O.live.length := by have := Hlen.out; omega
                obtain ⟨nb', no, rfl, hnb, n0, n1, n2⟩ := hsa.at3 q0 rfl
                obtain ⟨nb2, no2, ee, hnb2, u0, u1, u2⟩ := hsa.at3 q1 rfl
                cases ee
                have hcmp := rise_at HOP2.out.rise (j := 0) q1
                have hc := fun W => compare_below O.live[0] O.live[1] W
                generalize ccmp O.live[0] O.live[1] = cc at *
                have kp : ∀ W, Below w7.heap.size w7 W → (Below w7.heap.size w7 W ∧ W.cell? ⟨nb', no, none⟩ = some (.int .i64 O.live[0].v) ∧ W.cell? ⟨nb', no + 1, none⟩ = some (.string O.live[0].k) ∧ W.cell? ⟨nb', no + 2, none⟩ = some (.int .i64 O.live[0].s) ∧ W.cell? ⟨nb', no + 3, none⟩ = some (.int .i64 O.live[1].v) ∧ W.cell? ⟨nb', no + 3 + 1, none⟩ = some (.string O.live[1].k) ∧ W.cell? ⟨nb', no + 3 + 2, none⟩ = some (.int .i64 O.live[1].s)) := by
                  intro W hW
                  have hk1 : ∀ off, W.cell? ⟨nb', off, none⟩ = w7.cell? ⟨nb', off, none⟩ := fun off => hW.cell (p := ⟨nb', off, none⟩) hnb
                  simp only [Nat.zero_mul, Nat.add_zero, Nat.one_mul] at n0 n1 n2 u0 u1 u2
                  exact ⟨hW, (hk1 _).trans n0, (hk1 _).trans n1, (hk1 _).trans n2, (hk1 _).trans u0, (hk1 _).trans u1, (hk1 _).trans u2⟩
                have kD := kp _ hb.drew
                have i0 : (0 : Int) < (O.live.length : Int) := by omega
                have i1 : (1 : Int) < (O.live.length : Int) := by omega
                clear n0 n1 n2 u0 u1 u2
                generalize O.live[0].v = x1 at *
                generalize O.live[0].k = x2 at *
                generalize O.live[0].s = x3 at *
                generalize O.live[1].v = y1 at *
                generalize O.live[1].k = y2 at *
                generalize O.live[1].s = y3 at *
                have hdN : decide ((N : Int) < 2) = false := decide_eq_false hN2
                go_wp2_with fail
                go_region_held3 (fun W => Below w7.heap.size w7 W ∧ W.cell? ⟨nb', no, none⟩ = some (.int .i64 x1) ∧ W.cell? ⟨nb', no + 1, none⟩ = some (.string x2) ∧ W.cell? ⟨nb', no + 2, none⟩ = some (.int .i64 x3) ∧ W.cell? ⟨nb', no + 3, none⟩ = some (.int .i64 y1) ∧ W.cell? ⟨nb', no + 3 + 1, none⟩ = some (.string y2) ∧ W.cell? ⟨nb', no + 3 + 2, none⟩ = some (.int .i64 y3)) (first | exact kD | assumption)
                  (first | (go_at_call 35; refine (hc _).mono ?_; rintro e w8 ⟨rfl, hb8⟩; have hb9 := hb.drew.trans (hb8.mono (show w7.heap.size ≤ wr.drew.heap.size from hb.size)); have hk9 := kp _ hb9))
                go_wp2_with fail
                go_ret
                exact ⟨rfl, hbw7.trans (hb9.mono hbw7.size)⟩
/-- THE LAW OperMany, whatever its arguments. -/
theorem many_law (n keys turn mark : Int) (w : World) (h1 : (Lit.int .i64 n).wf = true) (h2 : (Lit.int .i64 keys).wf = true) (h3 : (Lit.int .i64 turn).wf = true) (h4 : (Lit.int .i64 mark).wf = true) :
    Calls Try.prog 11 #[.int .i64 n, .int .i64 keys, .int .i64 turn, .int .i64 mark] w fun e w' => e = .returned (.bool true) ∧ Below w.heap.size w w' := many_any n keys turn mark w
end Go.Proofs.Ytheimbhnckaonaa
