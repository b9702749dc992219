/- Mark. -/
import Derived.Test.YtaicecnfodhlcaaJ05
import Derived.Maps.AppendAt
set_option linter.unusedVariables false
set_option linter.unusedSimpArgs false
namespace Go.Proofs.Ytaicecnfodhlcaa
open Go.RowKit Go.Deep

abbrev Mst.marked (S : Mst) (o s t : Int) : Mst := { S with ms := S.ms.set o.toNat (riseL (S.ms.getD o.toNat []) (s, t)), told := S.told.set o.toNat (S.told.getD o.toNat [] ++ [(s, t)]) }
/-- A mark at an operator: the state behind it, and what is told. -/
def Mst.mark (S : Mst) (o s t : Int) : Mst × Int :=
  if o < 0 ∨ S.cfg.op ≤ o ∨ s < 0 ∨ S.cfg.so ≤ s then (S, 1)
  else if t < -1152921504606846976 ∨ 1152921504606846976 < t then (S, 22)
  else if (S.dueOf o).isSome = true then (S, 53)
  else (S.marked o s t, 0)
theorem riseL_length (l : List Int) (c : Int × Int) : (riseL l c).length = l.length := by simp [riseL]
theorem Mst.Inv.marked {S : Mst} (h : S.Inv) {o s t : Int} (h0 : 0 ≤ o) (h1 : o < S.cfg.op) (h2 : 0 ≤ s) (h3 : s < S.cfg.so) (h4 : -1152921504606846976 ≤ t) (h5 : t ≤ 1152921504606846976) :
    ({ S with ms := S.ms.set o.toNat (riseL (S.ms.getD o.toNat []) (s, t)), told := S.told.set o.toNat (S.told.getD o.toNat [] ++ [(s, t)]) } : Mst).Inv := by
  have hio : o.toNat < S.ms.length := toNat_lt h0 (by rw [h.msl]; exact h1)
  have hid : o.toNat < S.told.length := by rw [h.tdl]; exact hio
  have hg1 : S.ms.getD o.toNat [] = S.ms[o.toNat] := by simp [hio]
  have hg2 : S.told.getD o.toNat [] = S.told[o.toNat] := by simp [hid]
  refine ⟨h.cfg, by simp [h.msl], ?_, by simp [h.tdl], h.rise, h.may, h.now, h.old, h.slk, h.sok, h.cnt, ?_, ?_⟩
  · intro l hl
    rcases List.mem_or_eq_of_mem_set hl with h6 | h6
    · exact h.mrow l h6
    · rw [h6, riseL_length, hg1]; exact h.mrow _ (List.getElem_mem hio)
  · intro i hi
    simp only [List.length_set] at hi
    by_cases e : i = o.toNat
    · subst e
      have e1 : (S.ms.set o.toNat (riseL (S.ms.getD o.toNat []) (s, t))).getD o.toNat [] = riseL (S.ms.getD o.toNat []) (s, t) := by simp [hio]
      have e2 : (S.told.set o.toNat (S.told.getD o.toNat [] ++ [(s, t)])).getD o.toNat [] = S.told.getD o.toNat [] ++ [(s, t)] := by simp [hid]
      show (S.ms.set o.toNat (riseL (S.ms.getD o.toNat []) (s, t))).getD o.toNat [] = ((S.told.set o.toNat (S.told.getD o.toNat [] ++ [(s, t)])).getD o.toNat []).foldl riseL _
      rw [e1, e2, List.foldl_append, h.tms _ hio]
      rfl
    · have e1 : (S.ms.set o.toNat (riseL (S.ms.getD o.toNat []) (s, t))).getD i [] = S.ms.getD i [] := by simp [List.getD, List.getElem?_set, Ne.symm e]
      have e2 : (S.told.set o.toNat (S.told.getD o.toNat [] ++ [(s, t)])).getD i [] = S.told.getD i [] := by simp [List.getD, List.getElem?_set, Ne.symm e]
      show (S.ms.set o.toNat (riseL (S.ms.getD o.toNat []) (s, t))).getD i [] = ((S.told.set o.toNat (S.told.getD o.toNat [] ++ [(s, t)])).getD i []).foldl riseL _
      rw [e1, e2]
      exact h.tms i hi
  · intro l hl c hc
    rcases List.mem_or_eq_of_mem_set hl with h6 | h6
    · exact h.tok l h6 c hc
    · rw [h6] at hc
      rcases List.mem_append.1 hc with h7 | h7
      · rw [hg2] at h7; exact h.tok _ (List.getElem_mem hid) c h7
      · rw [List.mem_singleton.1 h7]; exact ⟨h2, h3, h4, h5⟩

theorem st_call : SlT Try.prog 106 108 2 16 := SlT.mk' (z := .agg #[.int .i64 0, .int .i64 0]) Try.underlying106 (by decide) (by kernel_rfl) rfl
theorem app_call (W : World) (v : Value) (xs : List (Int × Int)) (hown : Own 108 2 callL 0 W v xs) (g : Nat) (s t : Int) (hg : W.heap[g]? = some (.cells #[.int .i64 s, .int .i64 t] 108 (0, 0))) (hl : xs.length ≤ 100000000) :
    ∃ v' w', (∀ ty, (Builtin.append_ #[106, 106] ty #[v, .slice (some ⟨g, 0, none⟩) 1 1]).run Try.prog W = .ok v' w') ∧ Own 108 2 callL 0 w' v' (xs ++ [(s, t)]) ∧ (v'.ownBlock = v.ownBlock ∨ v'.ownBlock = some W.heap.size) ∧ W.grownBy w' v.ownBlock := by
  obtain ⟨ht, hsz, i, z, hi, hz0, hsize, hbytes, hzs⟩ := st_call
  obtain ⟨v', w', hr, h2, h3, h4, h5⟩ := run_append_own_at (P := Try.prog) W 0 106 0 108 i z 2 16 ht hi hz0 hsize hbytes hzs hsz v xs.length (xs.flatMap callL) hown ⟨g, 0, none⟩ 1 1 [.int .i64 s, .int .i64 t] rfl
    (fun j u hu => by
      have hc := cell_blk hg j
      rw [add_none, Nat.zero_add, hc]
      simpa using hu) (fun u hu => by simp at hu; rcases hu with rfl | rfl <;> rfl) (by unfold maxLen; omega) (by omega) (Nat.zero_le _)
  refine ⟨v', w', fun ty => hr, ?_, by first | exact h5 | exact h4, h3⟩
  unfold Own
  simpa using h2
theorem Own.set1 {α : Type} {E B g cap n : Nat} {f : α → Value} {w : World} {xs : List α} (h : Own E 1 (fun x => [f x]) B w (.slice (some ⟨g, 0, none⟩) n cap) xs) (hn : n = xs.length) {k : Nat} (hk : k < xs.length) (c : α) :
    Own E 1 (fun x => [f x]) B (w.setCell ⟨g, k, none⟩ (f c)) (.slice (some ⟨g, 0, none⟩) n cap) (xs.set k c) := by
  subst hn
  have h1 := (World.ownsRow.stored h k (f c)).1
  have e : ∀ ys : List α, ys.flatMap (fun x => [f x]) = ys.map f := fun ys => by induction ys with
    | nil => rfl
    | cons a t ih => rw [List.flatMap_cons, ih]; rfl
  unfold Own
  rw [e] at *
  rw [List.length_set, List.map_set]
  exact h1

set_option maxRecDepth 100000 in
set_option maxHeartbeats 8000000 in
theorem mark_arg {w : World} {B : MB} {S : Mst} (h : IsModel w B S) (o s t : Int) (he : o < 0 ∨ S.cfg.op ≤ o ∨ s < 0 ∨ S.cfg.so ≤ s) :
    Calls Try.prog 15 #[.pointer (some ⟨B.mp, 0, none⟩), .int .i64 o, .int .i64 s, .int .i64 t] w fun e w' => e = .returned (.int .i64 1) ∧ w = w' := by
  obtain ⟨_, c1, c2, _⟩ := h.obj.cells
  clear h
  generalize S.cfg.op = n at *
  generalize S.cfg.so = m at *
  by_cases h1 : o < 0
  · go_enter Try.func15, Try.ntmps15
    go_wp2_with fail
    go_ret
    exact ⟨rfl, rfl⟩
  · by_cases h2 : n ≤ o
    · go_enter Try.func15, Try.ntmps15
      go_wp2_with fail
      go_ret
      exact ⟨rfl, rfl⟩
    · by_cases h3 : s < 0
      · go_enter Try.func15, Try.ntmps15
        go_wp2_with fail
        go_ret
        exact ⟨rfl, rfl⟩
      · have h4 : m ≤ s := by omega
        go_enter Try.func15, Try.ntmps15
        go_wp2_with fail
        go_ret
        exact ⟨rfl, rfl⟩
set_option maxRecDepth 100000 in
set_option maxHeartbeats 8000000 in
theorem mark_time {w : World} {B : MB} {S : Mst} (h : IsModel w B S) (o s t : Int) (h1 : 0 ≤ o) (h2 : o < S.cfg.op) (h3 : 0 ≤ s) (h4 : s < S.cfg.so) (he : t < -1152921504606846976 ∨ 1152921504606846976 < t) :
    Calls Try.prog 15 #[.pointer (some ⟨B.mp, 0, none⟩), .int .i64 o, .int .i64 s, .int .i64 t] w fun e w' => e = .returned (.int .i64 22) ∧ w = w' := by
  obtain ⟨_, c1, c2, _⟩ := h.obj.cells
  clear h
  generalize S.cfg.op = n at *
  generalize S.cfg.so = m at *
  have a1 : ¬ o < 0 := by omega
  have a2 : ¬ n ≤ o := by omega
  have a3 : ¬ s < 0 := by omega
  have a4 : ¬ m ≤ s := by omega
  by_cases h5 : t < -1152921504606846976
  · go_enter Try.func15, Try.ntmps15
    go_wp2_with fail
    go_ret
    exact ⟨rfl, rfl⟩
  · have h6 : 1152921504606846976 < t := by omega
    go_enter Try.func15, Try.ntmps15
    go_wp2_with fail
    go_ret
    exact ⟨rfl, rfl⟩

/-- A slice's own block. -/
theorem ownBlock_slice (a : Option Addr) (n cap : Nat) {g : Nat} (h : (Value.slice a n cap).ownBlock = some g) : ∃ off, a = some ⟨g, off, none⟩ ∨ ∃ sp off, a = some ⟨g, off, sp⟩ := by
  cases a with
  | none => simp [Value.ownBlock] at h
  | some ad =>
    obtain ⟨b, off, sp⟩ := ad
    simp [Value.ownBlock] at h
    subst h
    exact ⟨off, .inr ⟨sp, off, rfl⟩⟩

/-- The marks of operator o have risen; the mark is written among those that it heard. -/
theorem IsModel.marked {w w3 w4 w5 : World} {B : MB} {S : Mst} (h : IsModel w B S) {o s t : Int} (h0 : 0 ≤ o) (h1 : o < S.cfg.op) (h2 : 0 ≤ s) (h3 : s < S.cfg.so) (h4 : -1152921504606846976 ≤ t) (h5 : t ≤ 1152921504606846976)
    (hik : o.toNat < B.mks.length) (hR : IsMarks w3 B.mks[o.toNat].1 B.mks[o.toNat].2 (riseL (S.ms.getD o.toNat []) (s, t))) (hc3 : Chg [B.mks[o.toNat].2] w w3) (hb4 : Below w3.heap.size w3 w4)
    (hit : o.toNat < B.tk.length) (a' : Option Addr) (n' cap' : Nat) (hown : Own 108 2 callL 0 w5 (.slice a' n' cap') (S.told.getD o.toNat [] ++ [(s, t)]))
    (hv : (Value.slice a' n' cap').ownBlock = B.tk[o.toNat].v.ownBlock ∨ (Value.slice a' n' cap').ownBlock = some w4.heap.size) (hg5 : w4.grownBy w5 B.tk[o.toNat].v.ownBlock) (ta : Nat) (hta : B.ta = some ⟨ta, 0, none⟩) :
    ∃ B', IsModel (w5.setCell ⟨ta, o.toNat, none⟩ (.slice a' n' cap')) B' (S.marked o s t) ∧ Turn w (w5.setCell ⟨ta, o.toNat, none⟩ (.slice a' n' cap')) B B' := by
  have hio : o.toNat < S.ms.length := toNat_lt h0 (by rw [h.inv.msl]; exact h1)
  have hid : o.toNat < S.told.length := by rw [h.inv.tdl]; exact hio
  have hmk := h.marks.at' o.toNat hik hio
  have htd := h.told.at' o.toNat hit hid
  have hltA : B.lab ta = .toldO := h.told.lb ta (by rw [hta]; rfl)
  generalize hvE : B.tk[o.toNat].v = vo at *
  generalize hblE : B.mks[o.toNat].2 = bl at *
  generalize hbmE : B.mks[o.toNat].1 = bm at *
  have hz : w.heap.size ≤ w4.heap.size := Nat.le_trans hc3.size hb4.size
  have hz5 : w4.heap.size ≤ w5.heap.size := hg5.size
  have hk5 : ∀ g, g < w.heap.size → g ≠ bl → vo.ownBlock ≠ some g → w5.heap[g]? = w.heap[g]? := fun g hg n1 n2 =>
    (hg5.block g (Nat.lt_of_lt_of_le hg hz) (fun e => n2 e.symm)).trans ((hb4.block g (Nat.lt_of_lt_of_le hg hc3.size)).trans (hc3.block g hg (by simpa using n1)))
  have hk6 : ∀ g, g < w.heap.size → g ≠ bl → vo.ownBlock ≠ some g → g ≠ ta → (w5.setCell ⟨ta, o.toNat, none⟩ (.slice a' n' cap')).heap[g]? = w.heap[g]? := fun g hg n1 n2 n3 => (Below.heap_setCell _ _ _ _ n3).trans (hk5 g hg n1 n2)
  have hz6 : w.heap.size ≤ (w5.setCell ⟨ta, o.toNat, none⟩ (.slice a' n' cap')).heap.size := by
    have : (w5.setCell ⟨ta, o.toNat, none⟩ (.slice a' n' cap')).heap.size = w5.heap.size := by simp [World.setCell]
    rw [this]; exact Nat.le_trans hz hz5
  -- by labels
  have hkl : ∀ g, B.lab g ≠ .no → B.lab g ≠ .mrow o.toNat → B.lab g ≠ .told o.toNat → B.lab g ≠ .toldO → (w5.setCell ⟨ta, o.toNat, none⟩ (.slice a' n' cap')).heap[g]? = w.heap[g]? := fun g n0 n1 n2 n3 =>
    hk6 g (h.lt g n0) (fun e => n1 (by rw [e]; exact hmk.2.2)) (fun e => n2 (htd.2 g e)) (fun e => n3 (by rw [e]; exact hltA))
  let nb : Nat → Prop := fun g => (Value.slice a' n' cap').ownBlock = some g
  have hnb : ∀ g, nb g → B.lab g = .told o.toNat ∨ (g = w4.heap.size ∧ B.lab g = .no) := by
    intro g hg
    rcases hv with e | e
    · exact .inl (htd.2 g (e.symm.trans hg))
    · have hgw : g = w4.heap.size := (Option.some.inj (e.symm.trans hg)).symm
      refine .inr ⟨hgw, ?_⟩
      by_cases hn : B.lab g = .no
      · exact hn
      · exact absurd (h.lt g hn) (by omega)
  have hlab : ∀ g, B.lab g ≠ .no → (if (Value.slice a' n' cap').ownBlock = some g then Lbl.told o.toNat else B.lab g) = B.lab g := by
    intro g hg
    by_cases hn : (Value.slice a' n' cap').ownBlock = some g
    · rw [if_pos hn]
      rcases hnb g hn with e | e
      · exact e.symm
      · exact absurd e.2 hg
    · rw [if_neg hn]
  refine ⟨{ B with tk := B.tk.set o.toNat ⟨a', n', cap'⟩, lab := fun g => if (Value.slice a' n' cap').ownBlock = some g then .told o.toNat else B.lab g }, ⟨?_, ?_, ?_, ?_, ?_, ?_, ?_, h.inv.marked h0 h1 h2 h3 h4 h5, ?_⟩, ⟨rfl, ?_, ?_⟩⟩
  · have h6 := h.obj.keep (w' := w5.setCell ⟨ta, o.toNat, none⟩ (.slice a' n' cap')) fun g e => hkl g (by rw [e]; simp) (by rw [e]; simp) (by rw [e]; simp) (by rw [e]; simp)
    exact ⟨by simpa using h6.obj, (hlab _ (by rw [h6.lb]; simp)).trans h6.lb⟩
  · exact (h.views.keep fun g e => hkl g (by rw [e]; simp) (by rw [e]; simp) (by rw [e]; simp) (by rw [e]; simp)).cast rfl rfl rfl fun g e => (hlab g (by rw [e]; simp)).trans e
  · exact (h.there.keep fun g e => hkl g (by rw [e]; simp) (by rw [e]; simp) (by rw [e]; simp) (by rw [e]; simp)).cast rfl rfl fun g e => (hlab g (by rw [e]; simp)).trans e
  · -- the marks
    have hw6R : IsMarks (w5.setCell ⟨ta, o.toNat, none⟩ (.slice a' n' cap')) bm bl (riseL (S.ms.getD o.toNat []) (s, t)) := by
      have hk3 : ∀ g, g < w3.heap.size → vo.ownBlock ≠ some g → g ≠ ta → (w5.setCell ⟨ta, o.toNat, none⟩ (.slice a' n' cap')).heap[g]? = w3.heap[g]? := fun g hg n2 n3 =>
        (Below.heap_setCell _ _ _ _ n3).trans ((hg5.block g (Nat.lt_of_lt_of_le hg hb4.size) (fun e => n2 e.symm)).trans (hb4.block g hg))
      refine hR.keep (hk3 _ hR.lt.1 ?_ ?_) (hk3 _ hR.lt.2 ?_ ?_)
      · intro e; have := htd.2 _ e; rw [hmk.2.1] at this; cases this
      · intro e; rw [← e, hmk.2.1] at hltA; cases hltA
      · intro e; have := htd.2 _ e; rw [hmk.2.2] at this; cases this
      · intro e; rw [← e, hmk.2.2] at hltA; cases hltA
    have hmo := h.marks.own.keep (w' := w5.setCell ⟨ta, o.toNat, none⟩ (.slice a' n' cap')) fun g hg _ => hkl g (by rw [h.marks.lb g hg]; simp) (by rw [h.marks.lb g hg]; simp) (by rw [h.marks.lb g hg]; simp) (by rw [h.marks.lb g hg]; simp)
    have hll : (S.marked o s t).ms.length = S.ms.length := by simp [Mst.marked]
    refine ⟨by rw [hll]; exact hmo, by rw [hll]; exact fun g hg => (hlab g (by rw [h.marks.lb g hg]; simp)).trans (h.marks.lb g hg), by rw [hll]; exact h.marks.len, fun i g1 g2 => ?_⟩
    rw [hll] at g2
    have g1' : i < B.mks.length := g1
    obtain ⟨m1, m2, m3⟩ := h.marks.at' i g1' g2
    by_cases e : i = o.toNat
    · subst e
      have e1 : (S.marked o s t).ms[o.toNat]'(by rw [hll]; exact g2) = riseL (S.ms.getD o.toNat []) (s, t) := by simp [Mst.marked]
      rw [e1]
      refine ⟨?_, ?_, ?_⟩
      · show IsMarks _ B.mks[o.toNat].1 B.mks[o.toNat].2 _
        rw [hbmE, hblE]; exact hw6R
      · exact (hlab _ (by rw [m2]; simp)).trans m2
      · exact (hlab _ (by rw [m3]; simp)).trans m3
    · have e1 : (S.marked o s t).ms[i]'(by rw [hll]; exact g2) = S.ms[i] := by simp [Mst.marked, List.getElem_set, Ne.symm e]
      rw [e1]
      refine ⟨m1.keep (hkl _ ?_ ?_ ?_ ?_) (hkl _ ?_ ?_ ?_ ?_), (hlab _ (by rw [m2]; simp)).trans m2, (hlab _ (by rw [m3]; simp)).trans m3⟩
      · rw [m2]; simp
      · rw [m2]; simp
      · rw [m2]; simp
      · rw [m2]; simp
      · rw [m3]; simp
      · rw [m3]; simpa using e
      · rw [m3]; simp
      · rw [m3]; simp
  · -- what it heard
    have hll : (S.marked o s t).told.length = S.told.length := by simp [Mst.marked]
    have hto := h.told.own
    rw [hta] at hto
    have hto5 := hto.keep (w' := w5) fun g hg hgl => by
      have hgt : g = ta := (Option.some.inj hg).symm
      subst hgt
      exact hk5 g hgl (fun e => by rw [e, hmk.2.2] at hltA; cases hltA) (fun e => by rw [htd.2 _ e] at hltA; cases hltA)
    have hto6 := Own.set1 (f := fun x : Slc => Value.slice x.a x.n x.cap) hto5 h.told.len.symm hit ⟨a', n', cap'⟩
    refine ⟨?_, ?_, ?_, fun i g1 g2 => ?_⟩
    · rw [hll, hta]; exact hto6
    · rw [hll]; exact fun g hg => (hlab g (by rw [h.told.lb g hg]; simp)).trans (h.told.lb g hg)
    · rw [hll, List.length_set]; exact h.told.len
    · rw [hll] at g2
      have g1' : i < B.tk.length := by simpa using g1
      by_cases e : i = o.toNat
      · subst e
        have e1 : (S.marked o s t).told[o.toNat]'(by rw [hll]; exact g2) = S.told.getD o.toNat [] ++ [(s, t)] := by simp [Mst.marked]
        have e2 : (B.tk.set o.toNat ⟨a', n', cap'⟩)[o.toNat]'g1 = ⟨a', n', cap'⟩ := by simp
        rw [e1]
        constructor
        · show Own 108 2 callL 0 _ ((B.tk.set o.toNat ⟨a', n', cap'⟩)[o.toNat]'g1).v _
          rw [e2]
          exact hown.keep fun g hg _ => Below.heap_setCell _ _ _ _ (fun e3 => by
            rcases hnb g hg with e4 | e4
            · rw [e3, hltA] at e4; cases e4
            · rw [e3, hltA] at e4; exact absurd e4.2 (by simp))
        · intro g hg
          have hg' : (Value.slice a' n' cap').ownBlock = some g := by
            have : ((B.tk.set o.toNat ⟨a', n', cap'⟩)[o.toNat]'g1).v.ownBlock = some g := hg
            rw [e2] at this; exact this
          show (if (Value.slice a' n' cap').ownBlock = some g then Lbl.told o.toNat else B.lab g) = _
          rw [if_pos hg']
      · have e1 : (S.marked o s t).told[i]'(by rw [hll]; exact g2) = S.told[i] := by simp [Mst.marked, List.getElem_set, Ne.symm e]
        have e2 : (B.tk.set o.toNat ⟨a', n', cap'⟩)[i]'g1 = B.tk[i] := by simp [List.getElem_set, Ne.symm e]
        obtain ⟨t1, t2⟩ := h.told.at' i g1' g2
        rw [e1]
        constructor
        · show Own 108 2 callL 0 _ ((B.tk.set o.toNat ⟨a', n', cap'⟩)[i]'g1).v _
          rw [e2]
          exact t1.keep fun g hg _ => hkl g (by rw [t2 g hg]; simp) (by rw [t2 g hg]; simp) (by rw [t2 g hg]; simpa using e) (by rw [t2 g hg]; simp)
        · intro g hg
          have hg' : B.tk[i].v.ownBlock = some g := by
            have : ((B.tk.set o.toNat ⟨a', n', cap'⟩)[i]'g1).v.ownBlock = some g := hg
            rw [e2] at this; exact this
          exact (hlab g (by rw [t2 g hg']; simp)).trans (t2 g hg')
  · exact (h.seals.keep fun g e => hkl g (by rcases e with e | ⟨i, e⟩ <;> (rw [e]; simp)) (by rcases e with e | ⟨i, e⟩ <;> (rw [e]; simp)) (by rcases e with e | ⟨i, e⟩ <;> (rw [e]; simp)) (by rcases e with e | ⟨i, e⟩ <;> (rw [e]; simp))).cast rfl rfl rfl fun g e => hlab g (by rcases e with e | ⟨i, e⟩ <;> (rw [e]; simp))
  · exact (h.holds.keep fun g e => hkl g (by rcases e with e | ⟨i, e⟩ <;> (rw [e]; simp)) (by rcases e with e | ⟨i, e⟩ <;> (rw [e]; simp)) (by rcases e with e | ⟨i, e⟩ <;> (rw [e]; simp)) (by rcases e with e | ⟨i, e⟩ <;> (rw [e]; simp))).cast rfl rfl rfl fun g e => hlab g (by rcases e with e | ⟨i, e⟩ <;> (rw [e]; simp))
  · intro g hg
    by_cases hn : (Value.slice a' n' cap').ownBlock = some g
    · have := (hown.ge hn).2
      simpa [World.setCell] using this
    · simp only [if_neg hn] at hg
      exact Nat.lt_of_lt_of_le (h.lt g hg) hz6
  · refine ⟨?_, ?_, ?_, hz6, fun g hg hn => ?_⟩
    · exact hg5.os.trans (hb4.os.trans hc3.os)
    · exact hg5.tape.trans (hb4.tape.trans hc3.tape)
    · exact hg5.output.trans (hb4.output.trans hc3.output)
    · have hn' : B.lab g = .no := by simpa using hn
      exact hk6 g hg (fun e => by rw [e, hmk.2.2] at hn'; cases hn') (fun e => by rw [htd.2 g e] at hn'; cases hn') (fun e => by rw [e, hltA] at hn'; cases hn')
  · intro g hg
    by_cases hn : (Value.slice a' n' cap').ownBlock = some g
    · rcases hnb g hn with e | e
      · exact .inl (by rw [e]; simp)
      · exact .inr (by omega)
    · simp only [if_neg hn] at hg
      exact .inl hg
end Go.Proofs.Ytaicecnfodhlcaa
/- Mark: the walk. -/
set_option linter.unusedVariables false
set_option linter.unusedSimpArgs false
namespace Go.Proofs.Ytaicecnfodhlcaa
open Go.RowKit Go.Deep

/-- An append in a drawn region, by its run. -/
theorem step_append_run {P : Program} {w w' : World} {ops : Array Oper} {o : Oper} {a : Act} {K : Act → World → Prop} {Q : Exit → Act → World → Prop} {E : Prop} (hgd : o.guard = none) (s x : Operand) (t : TypeId)
    (ho : o.op = .call { callee := .builtin .append, args := #[s, x], argTypes := #[t, t] }) {v y v' : Value} (hs : a.eval s = v) (hx : a.eval x = y) (hr : ∀ ty, (Builtin.append_ #[t, t] ty #[v, y]).run P w = .ok v' w') (h : K (a.put o.dst v') w') :
    if Region.wanted o (yielded ops a.tmps) = true then Oper.wp P o a w K Q else E := by
  have hw : Region.wanted o (yielded ops a.tmps) = true := by simp [Region.wanted, hgd]
  rw [if_pos hw]
  unfold Oper.wp execOp
  simp only [ho, resolve, invoke, builtin, Sem.run_bind, Sem.run_pure, Result.andThen_ok, List.map_toArray, List.map_cons, List.map_nil, hs, hx, hr]
  exact h

set_option maxRecDepth 100000 in
set_option maxHeartbeats 8000000 in
theorem mark_due {w : World} {B : MB} {S : Mst} (h : IsModel w B S) (o s t : Int) (h1 : 0 ≤ o) (h2 : o < S.cfg.op) (h3 : 0 ≤ s) (h4 : s < S.cfg.so) (h5 : -1152921504606846976 ≤ t) (h6 : t ≤ 1152921504606846976) (hmax : S.L.length ≤ 100000000) (hd : (S.dueOf o).isSome = true) :
    Calls Try.prog 15 #[.pointer (some ⟨B.mp, 0, none⟩), .int .i64 o, .int .i64 s, .int .i64 t] w fun e w' => e = .returned (.int .i64 53) ∧ Below w.heap.size w w' := by
  have hdue := due_any h o h1 h2 hmax
  obtain ⟨_, c1, c2, _⟩ := h.obj.cells
  clear h hmax
  obtain ⟨d, hd2⟩ := Option.isSome_iff_exists.1 hd
  rw [hd2] at hdue
  obtain ⟨dv, dk, ds⟩ := d
  clear hd hd2
  generalize S.cfg.op = n at *
  generalize S.cfg.so = m at *
  have a1 : ¬ o < 0 := by omega
  have a2 : ¬ n ≤ o := by omega
  have a3 : ¬ s < 0 := by omega
  have a4 : ¬ m ≤ s := by omega
  have a5 : ¬ t < -1152921504606846976 := by omega
  have a6 : ¬ 1152921504606846976 < t := by omega
  go_enter Try.func15, Try.ntmps15
  go_wp2_with fail
  refine hdue.mono ?_
  rintro e w1 ⟨rfl, hb1⟩
  have Hb1 := Lib.hid hb1
  clear hb1 hdue
  go_wp2_with fail
  go_ret
  exact ⟨rfl, Hb1.out.alloc Hb1.out.size _⟩

set_option maxRecDepth 100000 in
set_option maxHeartbeats 8000000 in
theorem mark_ok {w : World} {B : MB} {S : Mst} (h : IsModel w B S) (o s t : Int) (h1 : 0 ≤ o) (h2 : o < S.cfg.op) (h3 : 0 ≤ s) (h4 : s < S.cfg.so) (h5 : -1152921504606846976 ≤ t) (h6 : t ≤ 1152921504606846976) (hmax : S.L.length ≤ 100000000) (hd : S.dueOf o = none) (htl : ∀ l ∈ S.told, l.length ≤ 100000000) :
    Calls Try.prog 15 #[.pointer (some ⟨B.mp, 0, none⟩), .int .i64 o, .int .i64 s, .int .i64 t] w fun e w' => e = .returned (.int .i64 0) ∧ ∃ B', IsModel w' B' (S.marked o s t) ∧ Turn w w' B B' := by
  have hdue := due_any h o h1 h2 hmax
  rw [hd] at hdue
  have hio : o.toNat < S.ms.length := toNat_lt h1 (by rw [h.inv.msl]; exact h2)
  have hid : o.toNat < S.told.length := by rw [h.inv.tdl]; exact hio
  have hik : o.toNat < B.mks.length := by rw [h.marks.len]; exact hio
  have hit : o.toNat < B.tk.length := by rw [h.told.len]; exact hid
  have hoS : o < (S.ms.length : Int) := by rw [h.inv.msl]; exact h2
  have hoT : o < (S.told.length : Int) := by rw [h.inv.tdl]; exact hoS
  have hmk := h.marks.at' o.toNat hik hio
  have hso : s < ((S.ms[o.toNat]).length : Int) := by rw [h.inv.mrow _ (List.getElem_mem hio)]; exact h4
  have hg1 : S.ms.getD o.toNat [] = S.ms[o.toNat] := by simp [hio]
  have hg2 : S.told.getD o.toNat [] = S.told[o.toNat] := by simp [hid]
  obtain ⟨mb, mo, hme, hmb, m0⟩ := (h.marks.own.sl0 (fun _ => rfl)).at1 hik rfl
  obtain ⟨ta, hta, _⟩ := h.told.own.pos (by omega)
  obtain ⟨tb, to', hte, htb, t0⟩ := (h.told.own.sl0 (fun _ => rfl)).at1 hit rfl
  obtain ⟨rfl, rfl⟩ : tb = ta ∧ to' = 0 := by rw [hta] at hte; cases hte; exact ⟨rfl, rfl⟩
  rw [Nat.mul_one] at m0 t0
  rw [Nat.zero_add] at t0
  have htol : (S.told[o.toNat]).length ≤ 100000000 := htl _ (List.getElem_mem hid)
  obtain ⟨_, c1, c2, _, _, c13, c14, _⟩ := h.obj.cells
  have hmp : B.mp < w.heap.size := h.lt _ (by rw [h.obj.lb]; simp)
  have htown := (h.told.at' o.toNat hit hid).1
  have hltA : B.lab tb = .toldO := h.told.lb tb (by rw [hta]; rfl)
  have hltB : ∀ g, B.tk[o.toNat].v.ownBlock = some g → B.lab g = .told o.toNat := (h.told.at' o.toNat hit hid).2
  have hobl := h.obj.lb
  have hoo : (o.toNat : Int) = o := by omega
  have hrise : ∀ W, Below w.heap.size w W → Calls Try.prog 23 #[.pointer (some ⟨B.mks[o.toNat].1, 0, none⟩), .int .i64 s, .int .i64 t] W fun e w' => ∃ b : Bool, e = .returned (.tuple #[.bool b, .int .i64 0]) ∧ IsMarks w' B.mks[o.toNat].1 B.mks[o.toNat].2 (riseL (S.ms.getD o.toNat []) (s, t)) ∧ Chg [B.mks[o.toNat].2] W w' := by
    intro W hW
    refine (rise_ok B.mks[o.toNat].1 B.mks[o.toNat].2 S.ms[o.toNat] s t W ((h.below hW).marks.at' o.toNat hik hio).1 h3 hso h5 h6).mono ?_
    rintro e w' ⟨he, hm, hc⟩
    refine ⟨_, he, ?_, hc⟩
    rw [hg1]; exact hm
  have Hh := Lib.hid h
  have Hmk := Lib.hid hmk
  have Htown := Lib.hid htown
  have HltA := Lib.hid hltA
  have HltB := Lib.hid hltB
  have Hhd := Lib.hid hd
  have Hg2 := Lib.hid hg2
  rw [hta] at c14
  rw [hme] at c13
  clear h hmk htown hltA hltB hd hg1 hmax htl hte hg2
  generalize hvE : B.tk[o.toNat] = tv at *
  obtain ⟨va, vn, vc⟩ := tv
  have HvE := Lib.hid hvE
  clear hvE
  have a1 : ¬ o < 0 := by omega
  have a2 : ¬ S.cfg.op ≤ o := by omega
  have a3 : ¬ s < 0 := by omega
  have a4 : ¬ S.cfg.so ≤ s := by omega
  have a5 : ¬ t < -1152921504606846976 := by omega
  have a6 : ¬ 1152921504606846976 < t := by omega
  generalize hbmE : B.mks[o.toNat].1 = bm at *
  generalize hblE : B.mks[o.toNat].2 = bl at *
  have HbmE := Lib.hid hbmE
  have HblE := Lib.hid hblE
  clear hbmE hblE
  go_enter Try.func15, Try.ntmps15
  go_wp2_with fail
  refine hdue.mono ?_
  rintro e w1 ⟨rfl, hb1⟩
  have hb2 : Below w.heap.size w (w1.alloc (.cells #[.int .i64 (default : Cell).v, .string (default : Cell).k, .int .i64 (default : Cell).s] 46)) := hb1.alloc hb1.size _
  have hr2 := hrise _ hb2
  have d13 := (hb2.cell (p := ⟨B.mp, 13, none⟩) hmp).trans c13
  have e0 := (hb2.cell (p := ⟨mb, _, none⟩) hmb).trans m0
  clear hdue
  go_wp2_with fail
  refine hr2.mono ?_
  rintro e w3 ⟨bb, rfl, hm3, hc3⟩
  have hk3 : ∀ g, g < w.heap.size → g ≠ bl → w3.heap[g]? = w.heap[g]? := fun g hg hn => (hc3.block g (Nat.lt_of_lt_of_le hg hb2.size) (by simpa using hn)).trans (hb2.block g hg)
  have hc3w : Chg [bl] w w3 := ⟨hc3.os.trans hb2.os, hc3.tape.trans hb2.tape, hc3.output.trans hb2.output, Nat.le_trans hb2.size hc3.size, fun g hg hn => hk3 g hg (by simpa using hn)⟩
  have hnbl : ∀ g l, B.lab g = l → l ≠ .mrow o.toNat → g ≠ bl := fun g l h1 h2 e => h2 (by rw [← h1, e]; exact Hmk.out.2.2)
  have hbt3 : ∀ (g : Nat) (k : Nat), g < w.heap.size → g ≠ bl → w3.cell? ⟨g, k, none⟩ = w.cell? ⟨g, k, none⟩ := fun g k hg hn => World.cell?_of_block (a := ⟨g, k, none⟩) (hk3 g hg hn)
  have e14 := (hbt3 B.mp 14 hmp (hnbl _ _ hobl (by simp))).trans c14
  have et0 := (hbt3 tb o.toNat htb (hnbl _ _ HltA.out (by simp))).trans t0
  have hown3 := Htown.out.keep (w' := w3) fun g hg hgl => hk3 g hgl (hnbl g _ (HltB.out g hg) (by simp))
  have hg4 : (w3.drew.alloc (.cells #[.int .i64 s, .int .i64 t] 108)).heap[w3.heap.size]? = some (.cells #[.int .i64 s, .int .i64 t] 108 (0, 0)) := blk_at rfl
  have hb4 : Below w3.heap.size w3 (w3.drew.alloc (.cells #[.int .i64 s, .int .i64 t] 108)) := (Below.refl _ _).drew.alloc (Nat.le_refl _) _
  have hown4 := hown3.keep (w' := w3.drew.alloc (.cells #[.int .i64 s, .int .i64 t] 108)) fun g _ hgl => hb4.block g hgl
  obtain ⟨v', w5, hrun, hown5, hv5, hg5⟩ := app_call _ _ _ hown4 w3.heap.size s t hg4 htol
  obtain ⟨a', cap', rfl, _⟩ := hown5.sl fun _ => rfl
  generalize hn' : (S.told[o.toNat] ++ [(s, t)]).length = n' at *
  have hk5 : ∀ g, g < w.heap.size → g ≠ bl → ({ a := va, n := vn, cap := vc } : Slc).v.ownBlock ≠ some g → w5.heap[g]? = w.heap[g]? := fun g hg n1 n2 =>
    (hg5.block g (Nat.lt_of_lt_of_le hg (Nat.le_trans hc3w.size hb4.size)) (fun e => n2 e.symm)).trans ((hb4.block g (Nat.lt_of_lt_of_le hg hc3w.size)).trans (hk3 g hg n1))
  have hta5 := hk5 tb htb (hnbl _ _ HltA.out (by simp)) (fun e => by have := HltB.out _ e; rw [HltA.out] at this; cases this)
  have hmp5 := hk5 B.mp hmp (hnbl _ _ hobl (by simp)) (fun e => by have := HltB.out _ e; rw [hobl] at this; cases this)
  have f14 : w5.cell? ⟨B.mp, 14, none⟩ = _ := (World.cell?_of_block (a := ⟨B.mp, 14, none⟩) hmp5).trans c14
  have ft0 : w5.cell? ⟨tb, o.toNat, none⟩ = _ := (World.cell?_of_block (a := ⟨tb, o.toNat, none⟩) hta5).trans t0
  have hfz : w5.frozen? ⟨tb, o.toNat, none⟩ = false := by
    have h1 := Hh.out.told.own
    rw [hta] at h1
    exact (h1.keep (w' := w5) fun g hg _ => by rw [← Option.some.inj hg]; exact hta5).frozen o.toNat
  have hfin : ∃ B', IsModel (w5.setCell ⟨tb, o.toNat, none⟩ (.slice a' n' cap')) B' (S.marked o s t) ∧ Turn w (w5.setCell ⟨tb, o.toNat, none⟩ (.slice a' n' cap')) B B' := by
    refine Hh.out.marked (w3 := w3) (w4 := w3.drew.alloc (.cells #[.int .i64 s, .int .i64 t] 108)) h1 h2 h3 h4 h5 h6 hik (by rw [HbmE.out, HblE.out]; exact hm3) (by rw [HblE.out]; exact hc3w) hb4 hit a' n' cap' (by rw [Hg2.out]; exact hown5) (by rw [HvE.out]; exact hv5) (by rw [HvE.out]; exact hg5) tb hta
  have Hfin := Lib.hid hfin
  have Hrun := Lib.hid hrun
  have hz4 : (w3.drew.alloc (.cells #[.int .i64 s, .int .i64 t] 108)).heap.size = w3.heap.size + 1 := by simp
  have e14' := (hb4.cell (p := ⟨B.mp, 14, none⟩) (by have := hc3w.size; show B.mp < _; omega)).trans e14
  have et0' := (hb4.cell (p := ⟨tb, o.toNat, none⟩) (by have := hc3w.size; show tb < _; omega)).trans et0
  have f14s : (w5.setCell ⟨tb, o.toNat, none⟩ (.slice a' n' cap')).cell? ⟨B.mp, 14, none⟩ = some (.slice (some ⟨tb, 0, none⟩) S.told.length B.tcap) :=
    (World.cell?_of_block (a := ⟨B.mp, 14, none⟩) (Below.heap_setCell _ _ _ _ (fun e => by have h1 := HltA.out; have h2 : B.mp = tb := e; rw [← h2, hobl] at h1; cases h1))).trans f14
  clear hfin hg5 hv5 hown5 hown4 hown3 hm3 hc3 hc3w hk5 hbt3 hk3 hnbl hta5 hmp5 hr2 hrise hn' hz4 hb4 hg4
  go_wp2_with fail
  have hrun := Hrun.out
  have e14d : w3.drew.cell? ⟨B.mp, 14, none⟩ = some (.slice (some ⟨tb, 0, none⟩) S.told.length B.tcap) := e14
  have et0d : w3.drew.cell? ⟨tb, o.toNat, none⟩ = some (.slice va vn vc) := et0
  have et1 : (w3.alloc (.cells #[.int .i64 s, .int .i64 t] 108)).drew.cell? ⟨tb, o.toNat, none⟩ = some (.slice va vn vc) := et0'
  have et2 : (w3.alloc (.cells #[.int .i64 s, .int .i64 t] 108)).cell? ⟨tb, o.toNat, none⟩ = some (.slice va vn vc) := et0'
  refine wp_region_held_drew (S := fun W => W.cell? ⟨B.mp, 14, none⟩ = some (.slice (some ⟨tb, 0, none⟩) S.told.length B.tcap)) (by kernel_rfl) e14d (fun hHeld => ?_)
  refine wpAnyH_takeD (i := 0) (oi := _) (d := 60) (v := ?va0) rfl (by kernel_rfl) (by kernel_rfl) (by kernel_rfl) (by kernel_rfl) (fun _ _ _ h => h) (Or.inl ⟨by kernel_rfl, ?ya0⟩) (by assumption) ?ra0
  case ya0 =>
    intro w' hSw
    try dsimp only at hSw
    go_simp
    try with_reducible rfl
  try simp only [Act.put, List.setIfInBounds_toArray, List.set_cons_zero, List.set_cons_succ]
  refine wpAnyH_takeD (i := 1) (oi := _) (d := 61) (v := ?va1) rfl (by kernel_rfl) (by kernel_rfl) (by kernel_rfl) (by kernel_rfl) (fun _ _ _ h => h) (Or.inl ⟨by kernel_rfl, ?ya1⟩) (by assumption) ?ra1
  case ya1 =>
    intro w' hSw
    try dsimp only at hSw
    go_simp
    try with_reducible rfl
  try simp only [Act.put, List.setIfInBounds_toArray, List.set_cons_zero, List.set_cons_succ]
  refine wpAnyH_takeD (i := 2) (oi := _) (d := 62) (v := ?va2) rfl (by kernel_rfl) (by kernel_rfl) (by kernel_rfl) (by kernel_rfl) (fun _ _ _ h => h) (Or.inl ⟨by kernel_rfl, ?ya2⟩) (by assumption) ?ra2
  case ya2 =>
    intro w' hSw
    try dsimp only at hSw
    go_simp
    try with_reducible rfl
  try simp only [Act.put, List.setIfInBounds_toArray, List.set_cons_zero, List.set_cons_succ]
  refine wpAnyH_takeD (i := 3) (oi := _) (d := 63) (v := ?va3) rfl (by kernel_rfl) (by kernel_rfl) (by kernel_rfl) (by kernel_rfl) (fun _ _ _ h => h) (Or.inl ⟨by kernel_rfl, ?ya3⟩) (by assumption) ?ra3
  case ya3 =>
    intro w' hSw
    try dsimp only at hSw
    go_simp
    try with_reducible rfl
  try simp only [Act.put, List.setIfInBounds_toArray, List.set_cons_zero, List.set_cons_succ]
  refine wpAnyH_takeD (i := 4) (oi := _) (d := 64) (v := ?va4) rfl (by kernel_rfl) (by kernel_rfl) (by kernel_rfl) (by kernel_rfl) (fun _ _ _ h => h) (Or.inl ⟨by kernel_rfl, ?ya4⟩) (by assumption) ?ra4
  case ya4 =>
    intro w' hSw
    try dsimp only at hSw
    go_simp
    try with_reducible rfl
  try simp only [Act.put, List.setIfInBounds_toArray, List.set_cons_zero, List.set_cons_succ]
  refine wpAnyH_takeD (i := 5) (oi := _) (d := 65) (v := ?va5) rfl (by kernel_rfl) (by kernel_rfl) (by kernel_rfl) (by kernel_rfl) (fun _ _ _ h => h) (Or.inl ⟨by kernel_rfl, ?ya5⟩) (by assumption) ?ra5
  case ya5 =>
    intro w' hSw
    try dsimp only at hSw
    go_simp
    try with_reducible rfl
  try simp only [Act.put, List.setIfInBounds_toArray, List.set_cons_zero, List.set_cons_succ]
  refine wpAnyH_takeD (i := 6) (oi := _) (d := 66) (v := ?va6) rfl (by kernel_rfl) (by kernel_rfl) (by kernel_rfl) (by kernel_rfl) (fun _ _ _ h => h) (Or.inl ⟨by kernel_rfl, ?ya6⟩) (by assumption) ?ra6
  case ya6 =>
    intro w' hSw
    try dsimp only at hSw
    go_simp
    try with_reducible rfl
  try simp only [Act.put, List.setIfInBounds_toArray, List.set_cons_zero, List.set_cons_succ]
  refine wpAnyH_takeD (i := 7) (oi := _) (d := 67) (v := ?va7) rfl (by kernel_rfl) (by kernel_rfl) (by kernel_rfl) (by kernel_rfl) (fun _ _ _ h => h) (Or.inl ⟨by kernel_rfl, ?ya7⟩) (by assumption) ?ra7
  case ya7 =>
    intro w' hSw
    try dsimp only at hSw
    go_simp
    try with_reducible rfl
  try simp only [Act.put, List.setIfInBounds_toArray, List.set_cons_zero, List.set_cons_succ]
  refine wpAnyH_takeD (i := 8) (oi := _) (d := 68) (v := ?va8) rfl (by kernel_rfl) (by kernel_rfl) (by kernel_rfl) (by kernel_rfl) (fun _ _ _ h => h) (Or.inl ⟨by kernel_rfl, ?ya8⟩) (by assumption) ?ra8
  case ya8 =>
    intro w' hSw
    try dsimp only at hSw
    go_simp
    try with_reducible rfl
  try simp only [Act.put, List.setIfInBounds_toArray, List.set_cons_zero, List.set_cons_succ]
  refine wpAnyH_takeD (i := 9) (oi := _) (d := 69) (v := ?va9) rfl (by kernel_rfl) (by kernel_rfl) (by kernel_rfl) (by kernel_rfl) (fun _ _ _ h => h) (Or.inl ⟨by kernel_rfl, ?ya9⟩) (by assumption) ?ra9
  case ya9 =>
    intro w' hSw
    try dsimp only at hSw
    go_simp
    try with_reducible rfl
  try simp only [Act.put, List.setIfInBounds_toArray, List.set_cons_zero, List.set_cons_succ]
  refine wpAnyH_takeD (i := 10) (oi := _) (d := 70) (v := ?va10) rfl (by kernel_rfl) (by kernel_rfl) (by kernel_rfl) (by kernel_rfl) (fun _ _ _ h => h) (Or.inl ⟨by kernel_rfl, ?ya10⟩) (by assumption) ?ra10
  case ya10 =>
    intro w' hSw
    try dsimp only at hSw
    go_simp
    try with_reducible rfl
  try simp only [Act.put, List.setIfInBounds_toArray, List.set_cons_zero, List.set_cons_succ]
  refine wpAnyH_takeD (i := 12) (oi := _) (d := 72) (v := ?va12) rfl (by kernel_rfl) (by kernel_rfl) (by kernel_rfl) (by kernel_rfl) (fun _ _ _ h => h) (Or.inl ⟨by kernel_rfl, ?ya12⟩) (by assumption) ?ra12
  case ya12 =>
    intro w' hSw
    try dsimp only at hSw
    go_simp
    try with_reducible rfl
  try simp only [Act.put, List.setIfInBounds_toArray, List.set_cons_zero, List.set_cons_succ]
  refine wpAnyH_takeD (i := 13) (oi := _) (d := 73) (v := ?va13) rfl (by kernel_rfl) (by kernel_rfl) (by kernel_rfl) (by kernel_rfl) (fun _ _ _ h => h) (Or.inl ⟨by kernel_rfl, ?ya13⟩) (by assumption) ?ra13
  case ya13 =>
    intro w' hSw
    try dsimp only at hSw
    go_simp
    try with_reducible rfl
  try simp only [Act.put, List.setIfInBounds_toArray, List.set_cons_zero, List.set_cons_succ]
  refine wpAnyH_takeD (i := 14) (oi := _) (d := 74) (v := ?va14) rfl (by kernel_rfl) (by kernel_rfl) (by kernel_rfl) (by kernel_rfl) (fun _ _ _ h => h) (Or.inl ⟨by kernel_rfl, ?ya14⟩) (by assumption) ?ra14
  case ya14 =>
    intro w' hSw
    try dsimp only at hSw
    go_simp
    try with_reducible rfl
  try simp only [Act.put, List.setIfInBounds_toArray, List.set_cons_zero, List.set_cons_succ]
  refine wpAnyH_ready (rs := [11, 15]) (by kernel_rfl) (by simp) ?_
  refine AllReadyH.cons (o := _) rfl (fun K hK => ?_) (AllReadyH.cons (o := _) rfl (fun K hK => ?_) AllReadyH.nil)
  · go_simp
    refine hK.out _ _ e14d (fun _ => ?_)
    clear hK K
    try simp only [Act.put, List.setIfInBounds_toArray, List.set_cons_zero, List.set_cons_succ]
    refine wpAnyH_ready (rs := [15]) (by kernel_rfl) (by simp) ?_
    refine AllReadyH.cons (o := _) rfl (fun K hK => ?_) AllReadyH.nil
    go_simp
    refine hK.out _ _ e14' (fun _ => ?_)
    clear hK K
    try simp only [Act.put, List.setIfInBounds_toArray, List.set_cons_zero, List.set_cons_succ]
    refine wpAnyH_ready (rs := [16]) (by kernel_rfl) (by simp) ?_
    refine AllReadyH.cons (o := _) rfl (fun K hK => ?_) AllReadyH.nil
    refine step_append_run (by rfl) _ _ _ (by rfl) (by rfl) (by rfl) hrun ?_
    refine hK.out _ _ f14 (fun _ => ?_)
    clear hK K
    try simp only [Act.put, List.setIfInBounds_toArray, List.set_cons_zero, List.set_cons_succ]
    refine wpAnyH_takeD (i := 17) (oi := _) (d := 77) (v := ?vr1117) rfl (by kernel_rfl) (by kernel_rfl) (by kernel_rfl) (by kernel_rfl) (fun _ _ _ h => h) (Or.inl ⟨by kernel_rfl, ?yr1117⟩) (by assumption) ?rr1117
    case yr1117 =>
      intro w' hSw
      try dsimp only at hSw
      go_simp
      try with_reducible rfl
    try simp only [Act.put, List.setIfInBounds_toArray, List.set_cons_zero, List.set_cons_succ]
    refine wpAnyH_ready (rs := [18]) (by kernel_rfl) (by simp) ?_
    refine AllReadyH.cons (o := _) rfl (fun K hK => ?_) AllReadyH.nil
    go_simp
    refine hK.out _ _ f14s (fun _ => ?_)
    clear hK K
    try simp only [Act.put, List.setIfInBounds_toArray, List.set_cons_zero, List.set_cons_succ]
    refine wpAnyH_done (by kernel_rfl) ?_ _
    go_wp2_with fail
    go_ret
    exact ⟨rfl, Hfin.out⟩
  · go_simp
    refine hK.out _ _ e14' (fun _ => ?_)
    clear hK K
    try simp only [Act.put, List.setIfInBounds_toArray, List.set_cons_zero, List.set_cons_succ]
    refine wpAnyH_ready (rs := [11]) (by kernel_rfl) (by simp) ?_
    refine AllReadyH.cons (o := _) rfl (fun K hK => ?_) AllReadyH.nil
    go_simp
    refine hK.out _ _ e14' (fun _ => ?_)
    clear hK K
    try simp only [Act.put, List.setIfInBounds_toArray, List.set_cons_zero, List.set_cons_succ]
    refine wpAnyH_ready (rs := [16]) (by kernel_rfl) (by simp) ?_
    refine AllReadyH.cons (o := _) rfl (fun K hK => ?_) AllReadyH.nil
    refine step_append_run (by rfl) _ _ _ (by rfl) (by rfl) (by rfl) hrun ?_
    refine hK.out _ _ f14 (fun _ => ?_)
    clear hK K
    try simp only [Act.put, List.setIfInBounds_toArray, List.set_cons_zero, List.set_cons_succ]
    refine wpAnyH_takeD (i := 17) (oi := _) (d := 77) (v := ?vr1517) rfl (by kernel_rfl) (by kernel_rfl) (by kernel_rfl) (by kernel_rfl) (fun _ _ _ h => h) (Or.inl ⟨by kernel_rfl, ?yr1517⟩) (by assumption) ?rr1517
    case yr1517 =>
      intro w' hSw
      try dsimp only at hSw
      go_simp
      try with_reducible rfl
    try simp only [Act.put, List.setIfInBounds_toArray, List.set_cons_zero, List.set_cons_succ]
    refine wpAnyH_ready (rs := [18]) (by kernel_rfl) (by simp) ?_
    refine AllReadyH.cons (o := _) rfl (fun K hK => ?_) AllReadyH.nil
    go_simp
    refine hK.out _ _ f14s (fun _ => ?_)
    clear hK K
    try simp only [Act.put, List.setIfInBounds_toArray, List.set_cons_zero, List.set_cons_succ]
    refine wpAnyH_done (by kernel_rfl) ?_ _
    go_wp2_with fail
    go_ret
    exact ⟨rfl, Hfin.out⟩

theorem mark_any {w : World} {B : MB} {S : Mst} (h : IsModel w B S) (o s t : Int) (hmax : S.L.length ≤ 100000000) (htl : ∀ l ∈ S.told, l.length ≤ 100000000) :
    Calls Try.prog 15 #[.pointer (some ⟨B.mp, 0, none⟩), .int .i64 o, .int .i64 s, .int .i64 t] w fun e w' => e = .returned (.int .i64 (S.mark o s t).2) ∧ ∃ B', IsModel w' B' (S.mark o s t).1 ∧ Turn w w' B B' := by
  unfold Mst.mark
  by_cases h1 : o < 0 ∨ S.cfg.op ≤ o ∨ s < 0 ∨ S.cfg.so ≤ s
  · rw [if_pos h1]
    refine (mark_arg h o s t h1).mono ?_
    rintro e w' ⟨he, rfl⟩
    exact ⟨he, B, h, Turn.of_below B (Below.refl _ _)⟩
  · rw [if_neg h1]
    by_cases h2 : t < -1152921504606846976 ∨ 1152921504606846976 < t
    · rw [if_pos h2]
      refine (mark_time h o s t (by omega) (by omega) (by omega) (by omega) h2).mono ?_
      rintro e w' ⟨he, rfl⟩
      exact ⟨he, B, h, Turn.of_below B (Below.refl _ _)⟩
    · rw [if_neg h2]
      by_cases h3 : (S.dueOf o).isSome = true
      · rw [if_pos h3]
        refine (mark_due h o s t (by omega) (by omega) (by omega) (by omega) (by omega) (by omega) hmax h3).mono ?_
        rintro e w' ⟨he, hb⟩
        exact ⟨he, B, h.below hb, Turn.of_below B hb⟩
      · rw [if_neg h3]
        exact mark_ok h o s t (by omega) (by omega) (by omega) (by omega) (by omega) (by omega) hmax (by simpa using h3) htl
end Go.Proofs.Ytaicecnfodhlcaa
