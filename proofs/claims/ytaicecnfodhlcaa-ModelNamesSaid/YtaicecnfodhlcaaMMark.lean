/- Mark. -/
import Derived.Test.YtaicecnfodhlcaaMKill
import Derived.Maps.AppendAt
set_option linter.unusedVariables false
set_option linter.unusedSimpArgs false
namespace Go.Proofs.Ytaicecnfodhlcaa
open Go.RowKit Go.Deep

abbrev Mst.marked (S : Mst) (o s t : Int) : Mst := { S with ms := S.ms.set o.toNat (riseL (S.ms.getD o.toNat []) (s, t)), told := S.told.set o.toNat (S.told.getD o.toNat [] ++ [(s, t)]) }
/-- A mark at an operator: the state behind it, and what is told. -/
def Mst.mark (S : Mst) (o s t : Int) : Mst × Int :=
  if o < 0 ∨ S.cfg.op ≤ o ∨ s < 0 ∨ S.cfg.so ≤ s then (S, 1)
  else if t < -1152921504606846976 ∨ 1152921504606846976 < t then (S, 22)
  else if (S.dueOf o).isSome = true then (S, 53)
  else (S.marked o s t, 0)
theorem riseL_length (l : List Int) (c : Int × Int) : (riseL l c).length = l.length := by simp [riseL]
theorem Mst.Inv.marked {S : Mst} (h : S.Inv) {o s t : Int} (h0 : 0 ≤ o) (h1 : o < S.cfg.op) (h2 : 0 ≤ s) (h3 : s < S.cfg.so) (h4 : -1152921504606846976 ≤ t) (h5 : t ≤ 1152921504606846976) :
    ({ S with ms := S.ms.set o.toNat (riseL (S.ms.getD o.toNat []) (s, t)), told := S.told.set o.toNat (S.told.getD o.toNat [] ++ [(s, t)]) } : Mst).Inv := by
  have hio : o.toNat < S.ms.length := toNat_lt h0 (by rw [h.msl]; exact h1)
  have hid : o.toNat < S.told.length := by rw [h.tdl]; exact hio
  have hg1 : S.ms.getD o.toNat [] = S.ms[o.toNat] := by simp [hio]
  have hg2 : S.told.getD o.toNat [] = S.told[o.toNat] := by simp [hid]
  refine ⟨h.cfg, by simp [h.msl], ?_, by simp [h.tdl], h.rise, h.may, h.now, h.old, h.slk, h.sok, h.cnt, ?_, ?_⟩
  · intro l hl
    rcases List.mem_or_eq_of_mem_set hl with h6 | h6
    · exact h.mrow l h6
    · rw [h6, riseL_length, hg1]; exact h.mrow _ (List.getElem_mem hio)
  · intro i hi
    simp only [List.length_set] at hi
    by_cases e : i = o.toNat
    · subst e
      have e1 : (S.ms.set o.toNat (riseL (S.ms.getD o.toNat []) (s, t))).getD o.toNat [] = riseL (S.ms.getD o.toNat []) (s, t) := by simp [hio]
      have e2 : (S.told.set o.toNat (S.told.getD o.toNat [] ++ [(s, t)])).getD o.toNat [] = S.told.getD o.toNat [] ++ [(s, t)] := by simp [hid]
      show (S.ms.set o.toNat (riseL (S.ms.getD o.toNat []) (s, t))).getD o.toNat [] = ((S.told.set o.toNat (S.told.getD o.toNat [] ++ [(s, t)])).getD o.toNat []).foldl riseL _
      rw [e1, e2, List.foldl_append, h.tms _ hio]
      rfl
    · have e1 : (S.ms.set o.toNat (riseL (S.ms.getD o.toNat []) (s, t))).getD i [] = S.ms.getD i [] := by simp [List.getD, List.getElem?_set, Ne.symm e]
      have e2 : (S.told.set o.toNat (S.told.getD o.toNat [] ++ [(s, t)])).getD i [] = S.told.getD i [] := by simp [List.getD, List.getElem?_set, Ne.symm e]
      show (S.ms.set o.toNat (riseL (S.ms.getD o.toNat []) (s, t))).getD i [] = ((S.told.set o.toNat (S.told.getD o.toNat [] ++ [(s, t)])).getD i []).foldl riseL _
      rw [e1, e2]
      exact h.tms i hi
  · intro l hl c hc
    rcases List.mem_or_eq_of_mem_set hl with h6 | h6
    · exact h.tok l h6 c hc
    · rw [h6] at hc
      rcases List.mem_append.1 hc with h7 | h7
      · rw [hg2] at h7; exact h.tok _ (List.getElem_mem hid) c h7
      · rw [List.mem_singleton.1 h7]; exact ⟨h2, h3, h4, h5⟩

theorem st_call : SlT Try.prog 106 108 2 16 := SlT.mk' (z := .agg #[.int .i64 0, .int .i64 0]) Try.underlying106 (by decide) (by kernel_rfl) rfl
theorem app_call (W : World) (v : Value) (xs : List (Int × Int)) (hown : Own 108 2 callL 0 W v xs) (g : Nat) (s t : Int) (hg : W.heap[g]? = some (.cells #[.int .i64 s, .int .i64 t] 108 (0, 0))) (hl : xs.length ≤ 100000000) :
    ∃ v' w', (∀ ty, (Builtin.append_ #[106, 106] ty #[v, .slice (some ⟨g, 0, none⟩) 1 1]).run Try.prog W = .ok v' w') ∧ Own 108 2 callL 0 w' v' (xs ++ [(s, t)]) ∧ (v'.ownBlock = v.ownBlock ∨ v'.ownBlock = some W.heap.size) ∧ W.grownBy w' v.ownBlock := by
  obtain ⟨ht, hsz, i, z, hi, hz0, hsize, hbytes, hzs⟩ := st_call
  obtain ⟨v', w', hr, h2, h3, h4, h5⟩ := run_append_own_at (P := Try.prog) W 0 106 0 108 i z 2 16 ht hi hz0 hsize hbytes hzs hsz v xs.length (xs.flatMap callL) hown ⟨g, 0, none⟩ 1 1 [.int .i64 s, .int .i64 t] rfl
    (fun j u hu => by
      have hc := cell_blk hg j
      rw [add_none, Nat.zero_add, hc]
      simpa using hu) (fun u hu => by simp at hu; rcases hu with rfl | rfl <;> rfl) (by unfold maxLen; omega) (by omega) (Nat.zero_le _)
  refine ⟨v', w', fun ty => hr, ?_, by first | exact h5 | exact h4, h3⟩
  unfold Own
  simpa using h2
theorem Own.set1 {α : Type} {E B g cap n : Nat} {f : α → Value} {w : World} {xs : List α} (h : Own E 1 (fun x => [f x]) B w (.slice (some ⟨g, 0, none⟩) n cap) xs) (hn : n = xs.length) {k : Nat} (hk : k < xs.length) (c : α) :
    Own E 1 (fun x => [f x]) B (w.setCell ⟨g, k, none⟩ (f c)) (.slice (some ⟨g, 0, none⟩) n cap) (xs.set k c) := by
  subst hn
  have h1 := (World.ownsRow.stored h k (f c)).1
  have e : ∀ ys : List α, ys.flatMap (fun x => [f x]) = ys.map f := fun ys => by induction ys with
    | nil => rfl
    | cons a t ih => rw [List.flatMap_cons, ih]; rfl
  unfold Own
  rw [e] at *
  rw [List.length_set, List.map_set]
  exact h1

set_option maxRecDepth 100000 in
set_option maxHeartbeats 8000000 in
theorem mark_arg {w : World} {B : MB} {S : Mst} (h : IsModel w B S) (o s t : Int) (he : o < 0 ∨ S.cfg.op ≤ o ∨ s < 0 ∨ S.cfg.so ≤ s) :
    Calls Try.prog 15 #[.pointer (some ⟨B.mp, 0, none⟩), .int .i64 o, .int .i64 s, .int .i64 t] w fun e w' => e = .returned (.int .i64 1) ∧ w = w' := by
  obtain ⟨_, c1, c2, _⟩ := h.obj.cells
  clear h
  generalize S.cfg.op = n at *
  generalize S.cfg.so = m at *
  by_cases h1 : o < 0
  · go_enter Try.func15, Try.ntmps15
    go_wp2_with fail
    go_ret
    exact ⟨rfl, rfl⟩
  · by_cases h2 : n ≤ o
    · go_enter Try.func15, Try.ntmps15
      go_wp2_with fail
      go_ret
      exact ⟨rfl, rfl⟩
    · by_cases h3 : s < 0
      · go_enter Try.func15, Try.ntmps15
        go_wp2_with fail
        go_ret
        exact ⟨rfl, rfl⟩
      · have h4 : m ≤ s := by omega
        go_enter Try.func15, Try.ntmps15
        go_wp2_with fail
        go_ret
        exact ⟨rfl, rfl⟩
set_option maxRecDepth 100000 in
set_option maxHeartbeats 8000000 in
theorem mark_time {w : World} {B : MB} {S : Mst} (h : IsModel w B S) (o s t : Int) (h1 : 0 ≤ o) (h2 : o < S.cfg.op) (h3 : 0 ≤ s) (h4 : s < S.cfg.so) (he : t < -1152921504606846976 ∨ 1152921504606846976 < t) :
    Calls Try.prog 15 #[.pointer (some ⟨B.mp, 0, none⟩), .int .i64 o, .int .i64 s, .int .i64 t] w fun e w' => e = .returned (.int .i64 22) ∧ w = w' := by
  obtain ⟨_, c1, c2, _⟩ := h.obj.cells
  clear h
  generalize S.cfg.op = n at *
  generalize S.cfg.so = m at *
  have a1 : ¬ o < 0 := by omega
  have a2 : ¬ n ≤ o := by omega
  have a3 : ¬ s < 0 := by omega
  have a4 : ¬ m ≤ s := by omega
  by_cases h5 : t < -1152921504606846976
  · go_enter Try.func15, Try.ntmps15
    go_wp2_with fail
    go_ret
    exact ⟨rfl, rfl⟩
  · have h6 : 1152921504606846976 < t := by omega
    go_enter Try.func15, Try.ntmps15
    go_wp2_with fail
    go_ret
    exact ⟨rfl, rfl⟩

/-- A slice's own block. -/
theorem ownBlock_slice (a : Option Addr) (n cap : Nat) {g : Nat} (h : (Value.slice a n cap).ownBlock = some g) : ∃ off, a = some ⟨g, off, none⟩ ∨ ∃ sp off, a = some ⟨g, off, sp⟩ := by
  cases a with
  | none => simp [Value.ownBlock] at h
  | some ad =>
    obtain ⟨b, off, sp⟩ := ad
    simp [Value.ownBlock] at h
    subst h
    exact ⟨off, .inr ⟨sp, off, rfl⟩⟩

/-- The marks of operator o have risen; the mark is written among those that it heard. -/
theorem IsModel.marked {w w3 w4 w5 : World} {B : MB} {S : Mst} (h : IsModel w B S) {o s t : Int} (h0 : 0 ≤ o) (h1 : o < S.cfg.op) (h2 : 0 ≤ s) (h3 : s < S.cfg.so) (h4 : -1152921504606846976 ≤ t) (h5 : t ≤ 1152921504606846976)
    (hik : o.toNat < B.mks.length) (hR : IsMarks w3 B.mks[o.toNat].1 B.mks[o.toNat].2 (riseL (S.ms.getD o.toNat []) (s, t))) (hc3 : Chg [B.mks[o.toNat].2] w w3) (hb4 : Below w3.heap.size w3 w4)
    (hit : o.toNat < B.tk.length) (a' : Option Addr) (n' cap' : Nat) (hown : Own 108 2 callL 0 w5 (.slice a' n' cap') (S.told.getD o.toNat [] ++ [(s, t)]))
    (hv : (Value.slice a' n' cap').ownBlock = B.tk[o.toNat].v.ownBlock ∨ (Value.slice a' n' cap').ownBlock = some w4.heap.size) (hg5 : w4.grownBy w5 B.tk[o.toNat].v.ownBlock) (ta : Nat) (hta : B.ta = some ⟨ta, 0, none⟩) :
    ∃ B', IsModel (w5.setCell ⟨ta, o.toNat, none⟩ (.slice a' n' cap')) B' (S.marked o s t) ∧ Turn w (w5.setCell ⟨ta, o.toNat, none⟩ (.slice a' n' cap')) B B' := by
  have hio : o.toNat < S.ms.length := toNat_lt h0 (by rw [h.inv.msl]; exact h1)
  have hid : o.toNat < S.told.length := by rw [h.inv.tdl]; exact hio
  have hmk := h.marks.at' o.toNat hik hio
  have htd := h.told.at' o.toNat hit hid
  have hltA : B.lab ta = .toldO := h.told.lb ta (by rw [hta]; rfl)
  generalize hvE : B.tk[o.toNat].v = vo at *
  generalize hblE : B.mks[o.toNat].2 = bl at *
  generalize hbmE : B.mks[o.toNat].1 = bm at *
  have hz : w.heap.size ≤ w4.heap.size := Nat.le_trans hc3.size hb4.size
  have hz5 : w4.heap.size ≤ w5.heap.size := hg5.size
  have hk5 : ∀ g, g < w.heap.size → g ≠ bl → vo.ownBlock ≠ some g → w5.heap[g]? = w.heap[g]? := fun g hg n1 n2 =>
    (hg5.block g (Nat.lt_of_lt_of_le hg hz) (fun e => n2 e.symm)).trans ((hb4.block g (Nat.lt_of_lt_of_le hg hc3.size)).trans (hc3.block g hg (by simpa using n1)))
  have hk6 : ∀ g, g < w.heap.size → g ≠ bl → vo.ownBlock ≠ some g → g ≠ ta → (w5.setCell ⟨ta, o.toNat, none⟩ (.slice a' n' cap')).heap[g]? = w.heap[g]? := fun g hg n1 n2 n3 => (Below.heap_setCell _ _ _ _ n3).trans (hk5 g hg n1 n2)
  have hz6 : w.heap.size ≤ (w5.setCell ⟨ta, o.toNat, none⟩ (.slice a' n' cap')).heap.size := by
    have : (w5.setCell ⟨ta, o.toNat, none⟩ (.slice a' n' cap')).heap.size = w5.heap.size := by simp [World.setCell]
    rw [this]; exact Nat.le_trans hz hz5
  -- by labels
  have hkl : ∀ g, B.lab g ≠ .no → B.lab g ≠ .mrow o.toNat → B.lab g ≠ .told o.toNat → B.lab g ≠ .toldO → (w5.setCell ⟨ta, o.toNat, none⟩ (.slice a' n' cap')).heap[g]? = w.heap[g]? := fun g n0 n1 n2 n3 =>
    hk6 g (h.lt g n0) (fun e => n1 (by rw [e]; exact hmk.2.2)) (fun e => n2 (htd.2 g e)) (fun e => n3 (by rw [e]; exact hltA))
  let nb : Nat → Prop := fun g => (Value.slice a' n' cap').ownBlock = some g
  have hnb : ∀ g, nb g → B.lab g = .told o.toNat ∨ (g = w4.heap.size ∧ B.lab g = .no) := by
    intro g hg
    rcases hv with e | e
    · exact .inl (htd.2 g (e.symm.trans hg))
    · have hgw : g = w4.heap.size := (Option.some.inj (e.symm.trans hg)).symm
      refine .inr ⟨hgw, ?_⟩
      by_cases hn : B.lab g = .no
      · exact hn
      · exact absurd (h.lt g hn) (by omega)
  have hlab : ∀ g, B.lab g ≠ .no → (if (Value.slice a' n' cap').ownBlock = some g then Lbl.told o.toNat else B.lab g) = B.lab g := by
    intro g hg
    by_cases hn : (Value.slice a' n' cap').ownBlock = some g
    · rw [if_pos hn]
      rcases hnb g hn with e | e
      · exact e.symm
      · exact absurd e.2 hg
    · rw [if_neg hn]
  refine ⟨{ B with tk := B.tk.set o.toNat ⟨a', n', cap'⟩, lab := fun g => if (Value.slice a' n' cap').ownBlock = some g then .told o.toNat else B.lab g }, ⟨?_, ?_, ?_, ?_, ?_, ?_, ?_, h.inv.marked h0 h1 h2 h3 h4 h5, ?_⟩, ⟨rfl, ?_, ?_⟩⟩
  · have h6 := h.obj.keep (w' := w5.setCell ⟨ta, o.toNat, none⟩ (.slice a' n' cap')) fun g e => hkl g (by rw [e]; simp) (by rw [e]; simp) (by rw [e]; simp) (by rw [e]; simp)
    exact ⟨by simpa using h6.obj, (hlab _ (by rw [h6.lb]; simp)).trans h6.lb⟩
  · exact (h.views.keep fun g e => hkl g (by rw [e]; simp) (by rw [e]; simp) (by rw [e]; simp) (by rw [e]; simp)).cast rfl rfl rfl fun g e => (hlab g (by rw [e]; simp)).trans e
  · exact (h.there.keep fun g e => hkl g (by rw [e]; simp) (by rw [e]; simp) (by rw [e]; simp) (by rw [e]; simp)).cast rfl rfl fun g e => (hlab g (by rw [e]; simp)).trans e
  · -- the marks
    have hw6R : IsMarks (w5.setCell ⟨ta, o.toNat, none⟩ (.slice a' n' cap')) bm bl (riseL (S.ms.getD o.toNat []) (s, t)) := by
      have hk3 : ∀ g, g < w3.heap.size → vo.ownBlock ≠ some g → g ≠ ta → (w5.setCell ⟨ta, o.toNat, none⟩ (.slice a' n' cap')).heap[g]? = w3.heap[g]? := fun g hg n2 n3 =>
        (Below.heap_setCell _ _ _ _ n3).trans ((hg5.block g (Nat.lt_of_lt_of_le hg hb4.size) (fun e => n2 e.symm)).trans (hb4.block g hg))
      refine hR.keep (hk3 _ hR.lt.1 ?_ ?_) (hk3 _ hR.lt.2 ?_ ?_)
      · intro e; have := htd.2 _ e; rw [hmk.2.1] at this; cases this
      · intro e; rw [← e, hmk.2.1] at hltA; cases hltA
      · intro e; have := htd.2 _ e; rw [hmk.2.2] at this; cases this
      · intro e; rw [← e, hmk.2.2] at hltA; cases hltA
    have hmo := h.marks.own.keep (w' := w5.setCell ⟨ta, o.toNat, none⟩ (.slice a' n' cap')) fun g hg _ => hkl g (by rw [h.marks.lb g hg]; simp) (by rw [h.marks.lb g hg]; simp) (by rw [h.marks.lb g hg]; simp) (by rw [h.marks.lb g hg]; simp)
    have hll : (S.marked o s t).ms.length = S.ms.length := by simp [Mst.marked]
    refine ⟨by rw [hll]; exact hmo, by rw [hll]; exact fun g hg => (hlab g (by rw [h.marks.lb g hg]; simp)).trans (h.marks.lb g hg), by rw [hll]; exact h.marks.len, fun i g1 g2 => ?_⟩
    rw [hll] at g2
    have g1' : i < B.mks.length := g1
    obtain ⟨m1, m2, m3⟩ := h.marks.at' i g1' g2
    by_cases e : i = o.toNat
    · subst e
      have e1 : (S.marked o s t).ms[o.toNat]'(by rw [hll]; exact g2) = riseL (S.ms.getD o.toNat []) (s, t) := by simp [Mst.marked]
      rw [e1]
      refine ⟨?_, ?_, ?_⟩
      · show IsMarks _ B.mks[o.toNat].1 B.mks[o.toNat].2 _
        rw [hbmE, hblE]; exact hw6R
      · exact (hlab _ (by rw [m2]; simp)).trans m2
      · exact (hlab _ (by rw [m3]; simp)).trans m3
    · have e1 : (S.marked o s t).ms[i]'(by rw [hll]; exact g2) = S.ms[i] := by simp [Mst.marked, List.getElem_set, Ne.symm e]
      rw [e1]
      refine ⟨m1.keep (hkl _ ?_ ?_ ?_ ?_) (hkl _ ?_ ?_ ?_ ?_), (hlab _ (by rw [m2]; simp)).trans m2, (hlab _ (by rw [m3]; simp)).trans m3⟩
      · rw [m2]; simp
      · rw [m2]; simp
      · rw [m2]; simp
      · rw [m2]; simp
      · rw [m3]; simp
      · rw [m3]; simpa using e
      · rw [m3]; simp
      · rw [m3]; simp
  · -- what it heard
    have hll : (S.marked o s t).told.length = S.told.length := by simp [Mst.marked]
    have hto := h.told.own
    rw [hta] at hto
    have hto5 := hto.keep (w' := w5) fun g hg hgl => by
      have hgt : g = ta := (Option.some.inj hg).symm
      subst hgt
      exact hk5 g hgl (fun e => by rw [e, hmk.2.2] at hltA; cases hltA) (fun e => by rw [htd.2 _ e] at hltA; cases hltA)
    have hto6 := Own.set1 (f := fun x : Slc => Value.slice x.a x.n x.cap) hto5 h.told.len.symm hit ⟨a', n', cap'⟩
    refine ⟨?_, ?_, ?_, fun i g1 g2 => ?_⟩
    · rw [hll, hta]; exact hto6
    · rw [hll]; exact fun g hg => (hlab g (by rw [h.told.lb g hg]; simp)).trans (h.told.lb g hg)
    · rw [hll, List.length_set]; exact h.told.len
    · rw [hll] at g2
      have g1' : i < B.tk.length := by simpa using g1
      by_cases e : i = o.toNat
      · subst e
        have e1 : (S.marked o s t).told[o.toNat]'(by rw [hll]; exact g2) = S.told.getD o.toNat [] ++ [(s, t)] := by simp [Mst.marked]
        have e2 : (B.tk.set o.toNat ⟨a', n', cap'⟩)[o.toNat]'g1 = ⟨a', n', cap'⟩ := by simp
        rw [e1]
        constructor
        · show Own 108 2 callL 0 _ ((B.tk.set o.toNat ⟨a', n', cap'⟩)[o.toNat]'g1).v _
          rw [e2]
          exact hown.keep fun g hg _ => Below.heap_setCell _ _ _ _ (fun e3 => by
            rcases hnb g hg with e4 | e4
            · rw [e3, hltA] at e4; cases e4
            · rw [e3, hltA] at e4; exact absurd e4.2 (by simp))
        · intro g hg
          have hg' : (Value.slice a' n' cap').ownBlock = some g := by
            have : ((B.tk.set o.toNat ⟨a', n', cap'⟩)[o.toNat]'g1).v.ownBlock = some g := hg
            rw [e2] at this; exact this
          show (if (Value.slice a' n' cap').ownBlock = some g then Lbl.told o.toNat else B.lab g) = _
          rw [if_pos hg']
      · have e1 : (S.marked o s t).told[i]'(by rw [hll]; exact g2) = S.told[i] := by simp [Mst.marked, List.getElem_set, Ne.symm e]
        have e2 : (B.tk.set o.toNat ⟨a', n', cap'⟩)[i]'g1 = B.tk[i] := by simp [List.getElem_set, Ne.symm e]
        obtain ⟨t1, t2⟩ := h.told.at' i g1' g2
        rw [e1]
        constructor
        · show Own 108 2 callL 0 _ ((B.tk.set o.toNat ⟨a', n', cap'⟩)[i]'g1).v _
          rw [e2]
          exact t1.keep fun g hg _ => hkl g (by rw [t2 g hg]; simp) (by rw [t2 g hg]; simp) (by rw [t2 g hg]; simpa using e) (by rw [t2 g hg]; simp)
        · intro g hg
          have hg' : B.tk[i].v.ownBlock = some g := by
            have : ((B.tk.set o.toNat ⟨a', n', cap'⟩)[i]'g1).v.ownBlock = some g := hg
            rw [e2] at this; exact this
          exact (hlab g (by rw [t2 g hg']; simp)).trans (t2 g hg')
  · exact (h.seals.keep fun g e => hkl g (by rcases e with e | ⟨i, e⟩ <;> (rw [e]; simp)) (by rcases e with e | ⟨i, e⟩ <;> (rw [e]; simp)) (by rcases e with e | ⟨i, e⟩ <;> (rw [e]; simp)) (by rcases e with e | ⟨i, e⟩ <;> (rw [e]; simp))).cast rfl rfl rfl fun g e => hlab g (by rcases e with e | ⟨i, e⟩ <;> (rw [e]; simp))
  · exact (h.holds.keep fun g e => hkl g (by rcases e with e | ⟨i, e⟩ <;> (rw [e]; simp)) (by rcases e with e | ⟨i, e⟩ <;> (rw [e]; simp)) (by rcases e with e | ⟨i, e⟩ <;> (rw [e]; simp)) (by rcases e with e | ⟨i, e⟩ <;> (rw [e]; simp))).cast rfl rfl rfl fun g e => hlab g (by rcases e with e | ⟨i, e⟩ <;> (rw [e]; simp))
  · intro g hg
    by_cases hn : (Value.slice a' n' cap').ownBlock = some g
    · have := (hown.ge hn).2
      simpa [World.setCell] using this
    · simp only [if_neg hn] at hg
      exact Nat.lt_of_lt_of_le (h.lt g hg) hz6
  · refine ⟨?_, ?_, ?_, hz6, fun g hg hn => ?_⟩
    · exact hg5.os.trans (hb4.os.trans hc3.os)
    · exact hg5.tape.trans (hb4.tape.trans hc3.tape)
    · exact hg5.output.trans (hb4.output.trans hc3.output)
    · have hn' : B.lab g = .no := by simpa using hn
      exact hk6 g hg (fun e => by rw [e, hmk.2.2] at hn'; cases hn') (fun e => by rw [htd.2 g e] at hn'; cases hn') (fun e => by rw [e, hltA] at hn'; cases hn')
  · intro g hg
    by_cases hn : (Value.slice a' n' cap').ownBlock = some g
    · rcases hnb g hn with e | e
      · exact .inl (by rw [e]; simp)
      · exact .inr (by omega)
    · simp only [if_neg hn] at hg
      exact .inl hg
end Go.Proofs.Ytaicecnfodhlcaa
