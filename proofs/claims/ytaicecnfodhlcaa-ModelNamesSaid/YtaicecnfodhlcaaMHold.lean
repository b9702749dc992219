/- hold: a session holds an epoch. -/
import Derived.Test.YtaicecnfodhlcaaMHeld
set_option linter.unusedVariables false
set_option linter.unusedSimpArgs false
namespace Go.Proofs.Ytaicecnfodhlcaa
open Go.RowKit Go.Deep

abbrev Mst.hold (S : Mst) (s e : Int) : Mst := { S with holds := fun s' e' => S.holds s' e' || (decide (s' = s) && decide (e' = e)) }
theorem HasSet.congr {w : World} {b : Nat} {p q : Int → Bool} (h : HasSet w b p) (hpq : ∀ e, p e = q e) : HasSet w b q := by
  have : p = q := funext hpq
  rw [← this]; exact h
theorem mPut_keys {m : List (Int × Value)} {c : Int} {x : Value} (d : Int) : d ∈ (mPut m c x).map (·.1) ↔ d ∈ m.map (·.1) ∨ d = c := by
  unfold mPut
  by_cases hc : c ∈ m.map (·.1)
  · rw [if_pos hc]
    have e1 : (m.map fun p => if p.1 = c then (c, x) else p).map (·.1) = m.map (·.1) := by
      rw [List.map_map]
      apply List.map_congr_left
      intro p _
      simp only [Function.comp]
      split
      · rename_i h; exact h.symm
      · rfl
    rw [e1]
    constructor
    · exact fun h => .inl h
    · rintro (h | rfl)
      · exact h
      · exact hc
  · rw [if_neg hc, List.map_append, List.mem_append]
    simp
theorem mPut_vals {m : List (Int × Value)} {c : Int} {x : Value} {q : Int × Value} (hq : q ∈ mPut m c x) : q ∈ m ∨ q.2 = x := by
  unfold mPut at hq
  split at hq
  · obtain ⟨p, hp, rfl⟩ := List.mem_map.1 hq
    split
    · exact .inr rfl
    · exact .inl hp
  · rcases List.mem_append.1 hq with h | h
    · exact .inl h
    · rw [List.mem_singleton.1 h]; exact .inr rfl
theorem HasSet.put {w : World} {b : Nat} {p : Int → Bool} (h : HasSet w b p) (e : Int) :
    ∃ w', (Instr.mapUpdate 138 (.map (some b)) (.int .i64 e) (.bool true)).run Try.prog w = .ok () w' ∧ HasSet w' b (fun x => p x || decide (x = e)) ∧ Chg [b] w w' ∧ w'.heap.size = w.heap.size := by
  obtain ⟨m, hm, h1, h2⟩ := h
  obtain ⟨w', hr, hm', hg, hs⟩ := MapIs.update (P := Try.prog) keyInt Try.underlying138 hm e (.bool true)
  refine ⟨w', hr, ⟨_, hm', ?_, ?_⟩, Chg.of_grown hg, hs⟩
  · intro q hq
    rcases mPut_vals hq with h | h
    · exact h1 q h
    · exact h
  · intro d
    rw [mPut_keys, ← h2 d]
    simp
theorem Parts.held {w : World} {B : MB} {S : Mst} (h : Parts w B S) (s e : Int) (b : Nat) (hb : B.hk s = some b) :
    ∃ w', (Instr.mapUpdate 138 (.map (some b)) (.int .i64 e) (.bool true)).run Try.prog w = .ok () w' ∧ Parts w' B (S.hold s e) ∧ Turn w w' B B ∧ w'.heap.size = w.heap.size := by
  obtain ⟨hlb, m, hm, h1, h2⟩ := h.holds
  obtain ⟨hmem, hset, hlab⟩ := h1 s b hb
  obtain ⟨w', hr, hp, hc, hz⟩ := hset.put e
  have hk : ∀ g, B.lab g ≠ .no → g ≠ b → w'.heap[g]? = w.heap[g]? := fun g hg hn => hc.block g (h.lt g hg) (by simpa using hn)
  have hn : ∀ g x, B.lab g = x → x ≠ .no → x ≠ .hold s → w'.heap[g]? = w.heap[g]? := fun g x e1 e2 e3 => hk g (by rw [e1]; exact e2) (fun e4 => e3 (by rw [← e1, e4]; exact hlab))
  refine ⟨w', hr, ⟨?_, ?_, ?_, ?_, ?_, ?_, ⟨hlb, m, hm.keep (hn _ _ hlb (by decide) (by simp)), ?_, ?_⟩, fun g hg => by rw [hz]; exact h.lt g hg⟩, Turn.of_chg hc (fun g hg => by rw [List.mem_singleton.1 hg, hlab]; simp), hz⟩
  · have := h.obj.keep (w' := w') fun g e => hn g _ e (by simp) (by simp)
    exact ⟨this.obj, this.lb⟩
  · exact (h.views.keep fun g e => hn g _ e (by simp) (by simp)).cast rfl rfl rfl fun _ e => e
  · exact (h.there.keep fun g e => hn g _ e (by simp) (by simp)).cast rfl rfl fun _ e => e
  · exact (h.marks.keep fun g e => by rcases e with e | ⟨i, e⟩ | ⟨i, e⟩ <;> exact hn g _ e (by simp) (by simp)).cast rfl rfl rfl rfl fun _ _ => rfl
  · exact (h.told.keep fun g e => by rcases e with e | ⟨i, e⟩ <;> exact hn g _ e (by simp) (by simp)).cast rfl rfl rfl rfl fun _ _ => rfl
  · exact (h.seals.keep fun g e => by rcases e with e | ⟨i, e⟩ <;> exact hn g _ e (by simp) (by simp)).cast rfl rfl rfl fun _ _ => rfl
  · intro s' b' hs'
    obtain ⟨a1, a2, a3⟩ := h1 s' b' hs'
    by_cases e1 : s' = s
    · subst e1
      rw [hb] at hs'
      cases hs'
      exact ⟨a1, hp.congr fun x => by simp, a3⟩
    · exact ⟨a1, (a2.keep (hn _ _ a3 (by simp) (by simp [e1]))).congr fun x => by simp [e1], a3⟩
  · intro s' hs'
    refine ⟨(h2 s' hs').1, fun x => ?_⟩
    have e1 : s' ≠ s := fun e => by rw [e, hb] at hs'; cases hs'
    show (S.holds s' x || (decide (s' = s) && decide (x = e))) = false
    rw [(h2 s' hs').2 x]
    simp [e1]
abbrev MB.opened (B : MB) (s : Int) (b : Nat) : MB := { B with hk := fun s' => if s' = s then some b else B.hk s', lab := fun g => if g = b then .hold s else B.lab g }
theorem Parts.opened {w : World} {B : MB} {S : Mst} (h : Parts w B S) (s : Int) (hs : B.hk s = none) :
    ∃ w', (Instr.mapUpdate 85 (.map (some B.bh)) (.int .i64 s) (.map (some w.heap.size))).run Try.prog (w.alloc (.map #[] 0)) = .ok () w' ∧ Parts w' (B.opened s w.heap.size) S ∧ Turn w w' B (B.opened s w.heap.size) := by
  have h0 := h.below ((Below.refl w.heap.size w).alloc (Nat.le_refl _) (.map #[] 0))
  obtain ⟨hlb, m, hm, h1, h2⟩ := h0.holds
  obtain ⟨w', hr, hm', hg, hz⟩ := MapIs.update (P := Try.prog) keyInt Try.underlying85 hm s (.map (some w.heap.size))
  have hc := Chg.of_grown hg
  have hz1 : (w.alloc (.map #[] 0)).heap.size = w.heap.size + 1 := by simp
  have hk : ∀ g, B.lab g ≠ .no → g ≠ B.bh → w'.heap[g]? = (w.alloc (.map #[] 0)).heap[g]? := fun g hg hn => hc.block g (h0.lt g hg) (by simpa using hn)
  have hn : ∀ g x, B.lab g = x → x ≠ .no → x ≠ .holds → w'.heap[g]? = (w.alloc (.map #[] 0)).heap[g]? := fun g x e1 e2 e3 => hk g (by rw [e1]; exact e2) (fun e4 => e3 (by rw [← e1, e4]; exact hlb))
  have hno : B.lab w.heap.size = .no := by
    refine Decidable.byContradiction fun hn => ?_
    have := h.lt _ hn
    omega
  have hl : ∀ g, B.lab g ≠ .no → (B.opened s w.heap.size).lab g = B.lab g := by
    intro g hg
    show (if g = w.heap.size then Lbl.hold s else B.lab g) = _
    rw [if_neg (fun e => hg (by rw [e]; exact hno))]
  have hl' : ∀ g x, x ≠ .no → B.lab g = x → (B.opened s w.heap.size).lab g = x := fun g x hx e => (hl g (by rw [e]; exact hx)).trans e
  have hbh : B.bh < w.heap.size := h.lt _ (by rw [hlb]; simp)
  have hnew : w'.heap[w.heap.size]? = some (.map #[] 0) := (hc.block _ (by omega) (by simp; omega)).trans (blk_at rfl)
  refine ⟨w', hr, ⟨?_, ?_, ?_, ?_, ?_, ?_, ⟨hl' _ _ (by decide) hlb, _, hm', ?_, ?_⟩, ?_⟩, ⟨rfl, ?_, ?_⟩⟩
  · have := h0.obj.keep (w' := w') fun g e => hn g _ e (by simp) (by simp)
    exact ⟨this.obj, hl' _ _ (by decide) this.lb⟩
  · exact (h0.views.keep fun g e => hn g _ e (by simp) (by simp)).cast rfl rfl rfl fun g e => hl' g _ (by simp) e
  · exact (h0.there.keep fun g e => hn g _ e (by simp) (by simp)).cast rfl rfl fun g e => hl' g _ (by simp) e
  · exact (h0.marks.keep fun g e => by rcases e with e | ⟨i, e⟩ | ⟨i, e⟩ <;> exact hn g _ e (by simp) (by simp)).cast rfl rfl rfl rfl fun g e => hl g (by rcases e with e | ⟨i, e⟩ | ⟨i, e⟩ <;> (rw [e]; simp))
  · exact (h0.told.keep fun g e => by rcases e with e | ⟨i, e⟩ <;> exact hn g _ e (by simp) (by simp)).cast rfl rfl rfl rfl fun g e => hl g (by rcases e with e | ⟨i, e⟩ <;> (rw [e]; simp))
  · exact (h0.seals.keep fun g e => by rcases e with e | ⟨i, e⟩ <;> exact hn g _ e (by simp) (by simp)).cast rfl rfl rfl fun g e => hl g (by rcases e with e | ⟨i, e⟩ <;> (rw [e]; simp))
  · intro s' b' hs'
    have hs'' : (if s' = s then some w.heap.size else B.hk s') = some b' := hs'
    by_cases e1 : s' = s
    · subst e1
      rw [if_pos rfl] at hs''
      cases hs''
      refine ⟨?_, ⟨[], ⟨by simp, #[], 0, hnew, by simp, by simp, by simp⟩, by simp, fun x => by rw [(h2 s' hs).2 x]; simp⟩, if_pos rfl⟩
      unfold mPut
      rw [if_neg (h2 s' hs).1]
      simp
    · rw [if_neg e1] at hs''
      obtain ⟨a1, a2, a3⟩ := h1 s' b' hs''
      refine ⟨?_, a2.keep (hn _ _ a3 (by simp) (by simp)), hl' _ _ (by simp) a3⟩
      unfold mPut
      rw [if_neg (h2 s hs).1]
      exact List.mem_append.2 (.inl a1)
  · intro s' hs'
    have hs'' : (if s' = s then some w.heap.size else B.hk s') = none := hs'
    by_cases e1 : s' = s
    · rw [if_pos e1] at hs''; cases hs''
    · rw [if_neg e1] at hs''
      refine ⟨fun hh => ?_, (h2 s' hs'').2⟩
      rcases (mPut_keys s').1 hh with h | h
      · exact (h2 s' hs'').1 h
      · exact e1 h
  · intro g hg
    have hg' : (if g = w.heap.size then Lbl.hold s else B.lab g) ≠ .no := hg
    by_cases e1 : g = w.heap.size
    · omega
    · rw [if_neg e1] at hg'
      have := h.lt g hg'
      omega
  · exact ⟨hc.os, hc.tape, hc.output, by omega, fun g hg hn' => (hc.block g (by omega) (by simp; intro e; exact hn' (by rw [e, hlb]; simp))).trans (blk_old hg)⟩
  · intro g hg
    have hg' : (if g = w.heap.size then Lbl.hold s else B.lab g) ≠ .no := hg
    by_cases e1 : g = w.heap.size
    · exact .inr (by omega)
    · rw [if_neg e1] at hg'
      exact .inl hg'

theorem Parts.cell17 {w : World} {B : MB} {S : Mst} (h : Parts w B S) : w.cell? ⟨B.mp, 17, none⟩ = some (.map (some B.bh)) := h.obj.cells.2.2.2.2.2.2.2.2.2.1
set_option maxRecDepth 100000 in
set_option maxHeartbeats 4000000 in
theorem hold_parts {w : World} {B : MB} {S : Mst} (h : Parts w B S) (s e : Int) :
    Calls Try.prog 68 #[.pointer (some ⟨B.mp, 0, none⟩), .int .i64 s, .int .i64 e] w fun r w' => r = .returned (.tuple #[]) ∧ ∃ B', Parts w' B' (S.hold s e) ∧ Turn w w' B B' := by
  have hc := h.cell17
  have hg := h.holds.get s
  cases hs : B.hk s with
  | some b =>
    rw [hs] at hg
    have hq := run_eql_map_nil_sl (P := Try.prog) w 138 _ _ (some b) Try.underlying138
    obtain ⟨w', hr, hP, hT, hz⟩ := h.held s e b hs
    have HP := Lib.hid (And.intro hP hT)
    clear h hP hT hs
    go_enter Try.func68, Try.ntmps68
    go_wp2_with fail
    go_end0
    exact ⟨rfl, B, HP.out.1, HP.out.2⟩
  | none =>
    rw [hs] at hg
    have hq := run_eql_map_nil_sl (P := Try.prog) w 138 _ _ none Try.underlying138
    have hmm : (Instr.makeMap 138 none).run Try.prog w = .ok (.map (some w.heap.size)) (w.alloc (.map #[] 0)) := rfl
    obtain ⟨w1, hr1, hP1, hT1⟩ := h.opened s hs
    have hc0 : (w.alloc (.map #[] 0)).cell? ⟨B.mp, 17, none⟩ = some (.map (some B.bh)) := (h.below ((Below.refl w.heap.size w).alloc (Nat.le_refl _) (.map #[] 0))).cell17
    have hc1 : w1.cell? ⟨B.mp, 17, none⟩ = some (.map (some B.bh)) := hP1.cell17
    have hg1 : (Instr.lookup 85 (.map (some B.bh)) (.int .i64 s) false).run Try.prog w1 = .ok (.map (some w.heap.size)) w1 := by
      have h9 := hP1.holds.get s
      have e9 : (B.opened s w.heap.size).hk s = some w.heap.size := if_pos rfl
      rw [e9] at h9
      exact h9
    obtain ⟨w2, hr2, hP2, hT2, hz⟩ := hP1.held s e w.heap.size (if_pos rfl)
    have HP := Lib.hid (And.intro hP2 (hT1.trans hT2))
    clear h hP1 hT1 hs hP2 hT2
    go_enter Try.func68, Try.ntmps68
    go_wp2_with fail
    go_end0
    exact ⟨rfl, _, HP.out.1, HP.out.2⟩
end Go.Proofs.Ytaicecnfodhlcaa
