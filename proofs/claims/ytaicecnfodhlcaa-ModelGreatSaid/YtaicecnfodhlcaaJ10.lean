/- Which session holds what: the maps of it. -/
import Derived.Test.YtaicecnfodhlcaaJ09
import Derived.Shelf.SlMaps.Clone
import Derived.Test.YtaicecnfodhlcaaShelf2
set_option linter.unusedVariables false
set_option linter.unusedSimpArgs false
namespace Go.Proofs.Ytaicecnfodhlcaa
open Go.RowKit Go.Deep

abbrev tHolds : TypeId := 85
abbrev tSet : TypeId := 138
theorem PHolds.get {w : World} {B : MB} {S : Mst} (h : PHolds w B S) (s : Int) : (Instr.lookup 85 (.map (some B.bh)) (.int .i64 s) false).run Try.prog w = .ok (.map (B.hk s)) w := by
  obtain ⟨_, m, hm, h1, h2⟩ := h
  have hl := MapIs.lookup (P := Try.prog) (t := 85) (kt := 3) keyInt Try.underlying85 hm s false (z := .map none) (by kernel_rfl)
  change (Instr.lookup _ _ (.int .i64 s) false).run _ _ = _ at hl
  rw [hl]
  cases hs : B.hk s with
  | none => rw [mGet_none (h2 s hs).1]; simp
  | some b => rw [mGet_some hm.nd (h1 s b hs).1]; simp
theorem HasSet.get {w : World} {b : Nat} {p : Int → Bool} (h : HasSet w b p) (e : Int) : (Instr.lookup 138 (.map (some b)) (.int .i64 e) false).run Try.prog w = .ok (.bool (p e)) w := by
  obtain ⟨m, hm, h1, h2⟩ := h
  have hl := MapIs.lookup (P := Try.prog) (t := 138) (kt := 3) keyInt Try.underlying138 hm e false (z := .bool false) (by kernel_rfl)
  change (Instr.lookup _ _ (.int .i64 e) false).run _ _ = _ at hl
  rw [hl]
  by_cases hc : e ∈ m.map (·.1)
  · obtain ⟨q, hq, rfl⟩ := List.mem_map.1 hc
    have hv := h1 q hq
    rw [mGet_some hm.nd (x := .bool true) (by rw [← hv]; exact hq), (h2 q.1).2 hc]
    rfl
  · rw [mGet_none hc]
    have : p e = false := by
      cases hp : p e with
      | false => rfl
      | true => exact absurd ((h2 e).1 hp) hc
    rw [this]
    rfl
theorem lookup_nilset (w : World) (e : Int) : (Instr.lookup 138 (.map none) (.int .i64 e) false).run Try.prog w = .ok (.bool false) w := by
  have hz : (zeroValue 4).run Try.prog w = .ok (.bool false) w := by kernel_rfl
  have h1 := keyInt.check true e w
  have h2 := keyInt.miss w e [] [] rfl (by simp)
  simp only [intV] at h1 h2
  simp [Instr.lookup, run_underlying Try.underlying138, Result.andThen, hz, h1, h2]
theorem PHolds.has {w : World} {B : MB} {S : Mst} (h : PHolds w B S) (s e : Int) : (Instr.lookup 138 (.map (B.hk s)) (.int .i64 e) false).run Try.prog w = .ok (.bool (S.holds s e)) w := by
  obtain ⟨_, m, hm, h1, h2⟩ := h
  cases hs : B.hk s with
  | none => rw [lookup_nilset, (h2 s hs).2 e]
  | some b => exact (h1 s b hs).2.1.get e
/-- How many epochs a session holds. -/
def Mst.heldN (S : Mst) (s : Int) : Nat := ((List.range S.now.toNat).filter fun (i : Nat) => S.holds s (i : Int)).length
theorem HasSet.len {w : World} {b : Nat} {S : Mst} {s : Int} (h : HasSet w b (S.holds s)) (hi : ∀ e, S.holds s e = true → 1 ≤ e ∧ e < S.now) (ty : TypeId) : (Builtin.len_ #[138] ty #[.map (some b)]).run Try.prog w = .ok (.int .i64 (S.heldN s)) w := by
  obtain ⟨m, hm, h1, h2⟩ := h
  rw [MapIs.len Try.underlying138 hm ty]
  have hp : (m.map (·.1)).Perm (((List.range S.now.toNat).filter fun (i : Nat) => S.holds s (i : Int)).map fun (i : Nat) => (i : Int)) := by
    rw [List.perm_ext_iff_of_nodup hm.nd]
    · intro e
      rw [← h2 e]
      constructor
      · intro he
        have := hi e he
        exact List.mem_map.2 ⟨e.toNat, List.mem_filter.2 ⟨List.mem_range.2 (by omega), by rw [show ((e.toNat : Nat) : Int) = e by omega]; exact he⟩, by omega⟩
      · intro he
        obtain ⟨i, hi', rfl⟩ := List.mem_map.1 he
        exact (List.mem_filter.1 hi').2
    · unfold List.Nodup
      rw [List.pairwise_map]
      exact ((List.nodup_range (n := S.now.toNat)).sublist List.filter_sublist).imp fun hne e => hne (by omega)
  have hl := hp.length_eq
  rw [List.length_map, List.length_map] at hl
  rw [hl]
  rfl
theorem len_nilset (w : World) (ty : TypeId) : (Builtin.len_ #[138] ty #[.map none]).run Try.prog w = .ok (.int .i64 0) w := by
  simp [Builtin.len_, run_underlying Try.underlying138, Result.andThen, goInt]
theorem PHolds.len {w : World} {B : MB} {S : Mst} (h : PHolds w B S) (s : Int) (hi : ∀ e, S.holds s e = true → 1 ≤ e ∧ e < S.now) (ty : TypeId) : (Builtin.len_ #[138] ty #[.map (B.hk s)]).run Try.prog w = .ok (.int .i64 (S.heldN s)) w := by
  obtain ⟨_, m, hm, h1, h2⟩ := h
  cases hs : B.hk s with
  | none =>
    rw [len_nilset]
    have h0 : S.heldN s = 0 := by
      unfold Mst.heldN
      rw [List.length_eq_zero_iff, List.filter_eq_nil_iff]
      intro i _
      rw [(h2 s hs).2 i]
      simp
    rw [h0]
    rfl
  | some b => exact (h1 s b hs).2.1.len hi ty
end Go.Proofs.Ytaicecnfodhlcaa
/- hold: a session holds an epoch. -/
set_option linter.unusedVariables false
set_option linter.unusedSimpArgs false
namespace Go.Proofs.Ytaicecnfodhlcaa
open Go.RowKit Go.Deep

abbrev Mst.hold (S : Mst) (s e : Int) : Mst := { S with holds := fun s' e' => S.holds s' e' || (decide (s' = s) && decide (e' = e)) }
theorem HasSet.congr {w : World} {b : Nat} {p q : Int → Bool} (h : HasSet w b p) (hpq : ∀ e, p e = q e) : HasSet w b q := by
  have : p = q := funext hpq
  rw [← this]; exact h
theorem mPut_keys {m : List (Int × Value)} {c : Int} {x : Value} (d : Int) : d ∈ (mPut m c x).map (·.1) ↔ d ∈ m.map (·.1) ∨ d = c := by
  unfold mPut
  by_cases hc : c ∈ m.map (·.1)
  · rw [if_pos hc]
    have e1 : (m.map fun p => if p.1 = c then (c, x) else p).map (·.1) = m.map (·.1) := by
      rw [List.map_map]
      apply List.map_congr_left
      intro p _
      simp only [Function.comp]
      split
      · rename_i h; exact h.symm
      · rfl
    rw [e1]
    constructor
    · exact fun h => .inl h
    · rintro (h | rfl)
      · exact h
      · exact hc
  · rw [if_neg hc, List.map_append, List.mem_append]
    simp
theorem mPut_vals {m : List (Int × Value)} {c : Int} {x : Value} {q : Int × Value} (hq : q ∈ mPut m c x) : q ∈ m ∨ q.2 = x := by
  unfold mPut at hq
  split at hq
  · obtain ⟨p, hp, rfl⟩ := List.mem_map.1 hq
    split
    · exact .inr rfl
    · exact .inl hp
  · rcases List.mem_append.1 hq with h | h
    · exact .inl h
    · rw [List.mem_singleton.1 h]; exact .inr rfl
theorem HasSet.put {w : World} {b : Nat} {p : Int → Bool} (h : HasSet w b p) (e : Int) :
    ∃ w', (Instr.mapUpdate 138 (.map (some b)) (.int .i64 e) (.bool true)).run Try.prog w = .ok () w' ∧ HasSet w' b (fun x => p x || decide (x = e)) ∧ Chg [b] w w' ∧ w'.heap.size = w.heap.size := by
  obtain ⟨m, hm, h1, h2⟩ := h
  obtain ⟨w', hr, hm', hg, hs⟩ := MapIs.update (P := Try.prog) keyInt Try.underlying138 hm e (.bool true)
  refine ⟨w', hr, ⟨_, hm', ?_, ?_⟩, Chg.of_grown hg, hs⟩
  · intro q hq
    rcases mPut_vals hq with h | h
    · exact h1 q h
    · exact h
  · intro d
    rw [mPut_keys, ← h2 d]
    simp
theorem Parts.held {w : World} {B : MB} {S : Mst} (h : Parts w B S) (s e : Int) (b : Nat) (hb : B.hk s = some b) :
    ∃ w', (Instr.mapUpdate 138 (.map (some b)) (.int .i64 e) (.bool true)).run Try.prog w = .ok () w' ∧ Parts w' B (S.hold s e) ∧ Turn w w' B B ∧ w'.heap.size = w.heap.size := by
  obtain ⟨hlb, m, hm, h1, h2⟩ := h.holds
  obtain ⟨hmem, hset, hlab⟩ := h1 s b hb
  obtain ⟨w', hr, hp, hc, hz⟩ := hset.put e
  have hk : ∀ g, B.lab g ≠ .no → g ≠ b → w'.heap[g]? = w.heap[g]? := fun g hg hn => hc.block g (h.lt g hg) (by simpa using hn)
  have hn : ∀ g x, B.lab g = x → x ≠ .no → x ≠ .hold s → w'.heap[g]? = w.heap[g]? := fun g x e1 e2 e3 => hk g (by rw [e1]; exact e2) (fun e4 => e3 (by rw [← e1, e4]; exact hlab))
  refine ⟨w', hr, ⟨?_, ?_, ?_, ?_, ?_, ?_, ⟨hlb, m, hm.keep (hn _ _ hlb (by decide) (by simp)), ?_, ?_⟩, fun g hg => by rw [hz]; exact h.lt g hg⟩, Turn.of_chg hc (fun g hg => by rw [List.mem_singleton.1 hg, hlab]; simp), hz⟩
  · have := h.obj.keep (w' := w') fun g e => hn g _ e (by simp) (by simp)
    exact ⟨this.obj, this.lb⟩
  · exact (h.views.keep fun g e => hn g _ e (by simp) (by simp)).cast rfl rfl rfl fun _ e => e
  · exact (h.there.keep fun g e => hn g _ e (by simp) (by simp)).cast rfl rfl fun _ e => e
  · exact (h.marks.keep fun g e => by rcases e with e | ⟨i, e⟩ | ⟨i, e⟩ <;> exact hn g _ e (by simp) (by simp)).cast rfl rfl rfl rfl fun _ _ => rfl
  · exact (h.told.keep fun g e => by rcases e with e | ⟨i, e⟩ <;> exact hn g _ e (by simp) (by simp)).cast rfl rfl rfl rfl fun _ _ => rfl
  · exact (h.seals.keep fun g e => by rcases e with e | ⟨i, e⟩ <;> exact hn g _ e (by simp) (by simp)).cast rfl rfl rfl fun _ _ => rfl
  · intro s' b' hs'
    obtain ⟨a1, a2, a3⟩ := h1 s' b' hs'
    by_cases e1 : s' = s
    · subst e1
      rw [hb] at hs'
      cases hs'
      exact ⟨a1, hp.congr fun x => by simp, a3⟩
    · exact ⟨a1, (a2.keep (hn _ _ a3 (by simp) (by simp [e1]))).congr fun x => by simp [e1], a3⟩
  · intro s' hs'
    refine ⟨(h2 s' hs').1, fun x => ?_⟩
    have e1 : s' ≠ s := fun e => by rw [e, hb] at hs'; cases hs'
    show (S.holds s' x || (decide (s' = s) && decide (x = e))) = false
    rw [(h2 s' hs').2 x]
    simp [e1]
abbrev MB.opened (B : MB) (s : Int) (b : Nat) : MB := { B with hk := fun s' => if s' = s then some b else B.hk s', lab := fun g => if g = b then .hold s else B.lab g }
theorem Parts.opened {w : World} {B : MB} {S : Mst} (h : Parts w B S) (s : Int) (hs : B.hk s = none) :
    ∃ w', (Instr.mapUpdate 85 (.map (some B.bh)) (.int .i64 s) (.map (some w.heap.size))).run Try.prog (w.alloc (.map #[] 0)) = .ok () w' ∧ Parts w' (B.opened s w.heap.size) S ∧ Turn w w' B (B.opened s w.heap.size) := by
  have h0 := h.below ((Below.refl w.heap.size w).alloc (Nat.le_refl _) (.map #[] 0))
  obtain ⟨hlb, m, hm, h1, h2⟩ := h0.holds
  obtain ⟨w', hr, hm', hg, hz⟩ := MapIs.update (P := Try.prog) keyInt Try.underlying85 hm s (.map (some w.heap.size))
  have hc := Chg.of_grown hg
  have hz1 : (w.alloc (.map #[] 0)).heap.size = w.heap.size + 1 := by simp
  have hk : ∀ g, B.lab g ≠ .no → g ≠ B.bh → w'.heap[g]? = (w.alloc (.map #[] 0)).heap[g]? := fun g hg hn => hc.block g (h0.lt g hg) (by simpa using hn)
  have hn : ∀ g x, B.lab g = x → x ≠ .no → x ≠ .holds → w'.heap[g]? = (w.alloc (.map #[] 0)).heap[g]? := fun g x e1 e2 e3 => hk g (by rw [e1]; exact e2) (fun e4 => e3 (by rw [← e1, e4]; exact hlb))
  have hno : B.lab w.heap.size = .no := by
    refine Decidable.byContradiction fun hn => ?_
    have := h.lt _ hn
    omega
  have hl : ∀ g, B.lab g ≠ .no → (B.opened s w.heap.size).lab g = B.lab g := by
    intro g hg
    show (if g = w.heap.size then Lbl.hold s else B.lab g) = _
    rw [if_neg (fun e => hg (by rw [e]; exact hno))]
  have hl' : ∀ g x, x ≠ .no → B.lab g = x → (B.opened s w.heap.size).lab g = x := fun g x hx e => (hl g (by rw [e]; exact hx)).trans e
  have hbh : B.bh < w.heap.size := h.lt _ (by rw [hlb]; simp)
  have hnew : w'.heap[w.heap.size]? = some (.map #[] 0) := (hc.block _ (by omega) (by simp; omega)).trans (blk_at rfl)
  refine ⟨w', hr, ⟨?_, ?_, ?_, ?_, ?_, ?_, ⟨hl' _ _ (by decide) hlb, _, hm', ?_, ?_⟩, ?_⟩, ⟨rfl, ?_, ?_⟩⟩
  · have := h0.obj.keep (w' := w') fun g e => hn g _ e (by simp) (by simp)
    exact ⟨this.obj, hl' _ _ (by decide) this.lb⟩
  · exact (h0.views.keep fun g e => hn g _ e (by simp) (by simp)).cast rfl rfl rfl fun g e => hl' g _ (by simp) e
  · exact (h0.there.keep fun g e => hn g _ e (by simp) (by simp)).cast rfl rfl fun g e => hl' g _ (by simp) e
  · exact (h0.marks.keep fun g e => by rcases e with e | ⟨i, e⟩ | ⟨i, e⟩ <;> exact hn g _ e (by simp) (by simp)).cast rfl rfl rfl rfl fun g e => hl g (by rcases e with e | ⟨i, e⟩ | ⟨i, e⟩ <;> (rw [e]; simp))
  · exact (h0.told.keep fun g e => by rcases e with e | ⟨i, e⟩ <;> exact hn g _ e (by simp) (by simp)).cast rfl rfl rfl rfl fun g e => hl g (by rcases e with e | ⟨i, e⟩ <;> (rw [e]; simp))
  · exact (h0.seals.keep fun g e => by rcases e with e | ⟨i, e⟩ <;> exact hn g _ e (by simp) (by simp)).cast rfl rfl rfl fun g e => hl g (by rcases e with e | ⟨i, e⟩ <;> (rw [e]; simp))
  · intro s' b' hs'
    have hs'' : (if s' = s then some w.heap.size else B.hk s') = some b' := hs'
    by_cases e1 : s' = s
    · subst e1
      rw [if_pos rfl] at hs''
      cases hs''
      refine ⟨?_, ⟨[], ⟨by simp, #[], 0, hnew, by simp, by simp, by simp⟩, by simp, fun x => by rw [(h2 s' hs).2 x]; simp⟩, if_pos rfl⟩
      unfold mPut
      rw [if_neg (h2 s' hs).1]
      simp
    · rw [if_neg e1] at hs''
      obtain ⟨a1, a2, a3⟩ := h1 s' b' hs''
      refine ⟨?_, a2.keep (hn _ _ a3 (by simp) (by simp)), hl' _ _ (by simp) a3⟩
      unfold mPut
      rw [if_neg (h2 s hs).1]
      exact List.mem_append.2 (.inl a1)
  · intro s' hs'
    have hs'' : (if s' = s then some w.heap.size else B.hk s') = none := hs'
    by_cases e1 : s' = s
    · rw [if_pos e1] at hs''; cases hs''
    · rw [if_neg e1] at hs''
      refine ⟨fun hh => ?_, (h2 s' hs'').2⟩
      rcases (mPut_keys s').1 hh with h | h
      · exact (h2 s' hs'').1 h
      · exact e1 h
  · intro g hg
    have hg' : (if g = w.heap.size then Lbl.hold s else B.lab g) ≠ .no := hg
    by_cases e1 : g = w.heap.size
    · omega
    · rw [if_neg e1] at hg'
      have := h.lt g hg'
      omega
  · exact ⟨hc.os, hc.tape, hc.output, by omega, fun g hg hn' => (hc.block g (by omega) (by simp; intro e; exact hn' (by rw [e, hlb]; simp))).trans (blk_old hg)⟩
  · intro g hg
    have hg' : (if g = w.heap.size then Lbl.hold s else B.lab g) ≠ .no := hg
    by_cases e1 : g = w.heap.size
    · exact .inr (by omega)
    · rw [if_neg e1] at hg'
      exact .inl hg'

theorem Parts.cell17 {w : World} {B : MB} {S : Mst} (h : Parts w B S) : w.cell? ⟨B.mp, 17, none⟩ = some (.map (some B.bh)) := h.obj.cells.2.2.2.2.2.2.2.2.2.1
set_option maxRecDepth 100000 in
set_option maxHeartbeats 4000000 in
theorem hold_parts {w : World} {B : MB} {S : Mst} (h : Parts w B S) (s e : Int) :
    Calls Try.prog 68 #[.pointer (some ⟨B.mp, 0, none⟩), .int .i64 s, .int .i64 e] w fun r w' => r = .returned (.tuple #[]) ∧ ∃ B', Parts w' B' (S.hold s e) ∧ Turn w w' B B' := by
  have hc := h.cell17
  have hg := h.holds.get s
  cases hs : B.hk s with
  | some b =>
    rw [hs] at hg
    have hq := run_eql_map_nil_sl (P := Try.prog) w 138 _ _ (some b) Try.underlying138
    obtain ⟨w', hr, hP, hT, hz⟩ := h.held s e b hs
    have HP := Lib.hid (And.intro hP hT)
    clear h hP hT hs
    go_enter Try.func68, Try.ntmps68
    go_wp2_with fail
    go_end0
    exact ⟨rfl, B, HP.out.1, HP.out.2⟩
  | none =>
    rw [hs] at hg
    have hq := run_eql_map_nil_sl (P := Try.prog) w 138 _ _ none Try.underlying138
    have hmm : (Instr.makeMap 138 none).run Try.prog w = .ok (.map (some w.heap.size)) (w.alloc (.map #[] 0)) := rfl
    obtain ⟨w1, hr1, hP1, hT1⟩ := h.opened s hs
    have hc0 : (w.alloc (.map #[] 0)).cell? ⟨B.mp, 17, none⟩ = some (.map (some B.bh)) := (h.below ((Below.refl w.heap.size w).alloc (Nat.le_refl _) (.map #[] 0))).cell17
    have hc1 : w1.cell? ⟨B.mp, 17, none⟩ = some (.map (some B.bh)) := hP1.cell17
    have hg1 : (Instr.lookup 85 (.map (some B.bh)) (.int .i64 s) false).run Try.prog w1 = .ok (.map (some w.heap.size)) w1 := by
      have h9 := hP1.holds.get s
      have e9 : (B.opened s w.heap.size).hk s = some w.heap.size := if_pos rfl
      rw [e9] at h9
      exact h9
    obtain ⟨w2, hr2, hP2, hT2, hz⟩ := hP1.held s e w.heap.size (if_pos rfl)
    have HP := Lib.hid (And.intro hP2 (hT1.trans hT2))
    clear h hP1 hT1 hs hP2 hT2
    go_enter Try.func68, Try.ntmps68
    go_wp2_with fail
    go_end0
    exact ⟨rfl, _, HP.out.1, HP.out.2⟩
end Go.Proofs.Ytaicecnfodhlcaa
/- pin. -/
set_option linter.unusedVariables false
set_option linter.unusedSimpArgs false
namespace Go.Proofs.Ytaicecnfodhlcaa
open Go.RowKit Go.Deep

theorem mclone_any (b : Nat) (L : List Rw) (w : World) (h : HasMap w b L) :
    Calls Try.prog 67 #[.map (some b)] w fun e w' => e = .returned (.map (some w.heap.size)) ∧ HasMap w' w.heap.size L ∧ Below w.heap.size w w' ∧ w.heap.size < w'.heap.size := by
  obtain ⟨m, hm, hp⟩ := h
  obtain ⟨hn, es, clock, hb, h2⟩ := hm
  have hc := AnyW.maps_Clone Try.cloneMap b es clock w hb
  change Calls Try.prog 67 _ _ _ at hc
  refine hc.mono ?_
  rintro e w' ⟨rfl, rfl⟩
  exact ⟨rfl, ⟨m, ⟨hn, es, clock, blk_at rfl, h2⟩, hp⟩, (Below.refl _ _).alloc (Nat.le_refl _) _, by simp⟩

abbrev Mst.kept (S : Mst) (e : Int) (L : List Rw) : Mst := { S with seals := fun e' => if e' = e then some L else S.seals e' }
abbrev MB.kept (B : MB) (e : Int) (b : Nat) : MB := { B with sk := fun e' => if e' = e then b else B.sk e', lab := fun g => if g = b then .epo e else B.lab g }
theorem Parts.keptAt {w0 w : World} {B : MB} {S : Mst} (h : Parts w B S) (e : Int) (L : List Rw) (b : Nat) (hset : HasMap w b L) (hno : B.lab b = .no) (hs : S.seals e = none) (hb0 : Below w0.heap.size w0 w) (hb : w0.heap.size ≤ b) :
    ∃ w', (Instr.mapUpdate 84 (.map (some B.bs)) (.int .i64 e) (.map (some b))).run Try.prog w = .ok () w' ∧ Parts w' (B.kept e b) (S.kept e L) ∧ Turn w0 w' B (B.kept e b) := by
  obtain ⟨hlb, m, hm, h1, h2⟩ := h.seals
  obtain ⟨w', hr, hm', hg, hz⟩ := MapIs.update (P := Try.prog) keyInt Try.underlying84 hm e (.map (some b))
  have hc := Chg.of_grown hg
  have hk : ∀ g, B.lab g ≠ .no → g ≠ B.bs → w'.heap[g]? = w.heap[g]? := fun g hg hn => hc.block g (h.lt g hg) (by simpa using hn)
  have hn : ∀ g x, B.lab g = x → x ≠ .no → x ≠ .seals → w'.heap[g]? = w.heap[g]? := fun g x e1 e2 e3 => hk g (by rw [e1]; exact e2) (fun e4 => e3 (by rw [← e1, e4]; exact hlb))
  have hl : ∀ g, B.lab g ≠ .no → (B.kept e b).lab g = B.lab g := by
    intro g hg
    show (if g = b then Lbl.epo e else B.lab g) = _
    rw [if_neg (fun e => hg (by rw [e]; exact hno))]
  have hl' : ∀ g x, x ≠ .no → B.lab g = x → (B.kept e b).lab g = x := fun g x hx e => (hl g (by rw [e]; exact hx)).trans e
  have hbne : b ≠ B.bs := fun e => by rw [e, hlb] at hno; cases hno
  refine ⟨w', hr, ⟨?_, ?_, ?_, ?_, ?_, ⟨hl' _ _ (by decide) hlb, _, hm', ?_, ?_⟩, ?_, ?_⟩, ⟨rfl, ?_, ?_⟩⟩
  · have := h.obj.keep (w' := w') fun g e => hn g _ e (by simp) (by simp)
    exact ⟨this.obj, hl' _ _ (by decide) this.lb⟩
  · exact (h.views.keep fun g e => hn g _ e (by simp) (by simp)).cast rfl rfl rfl fun g e => hl' g _ (by simp) e
  · exact (h.there.keep fun g e => hn g _ e (by simp) (by simp)).cast rfl rfl fun g e => hl' g _ (by simp) e
  · exact (h.marks.keep fun g e => by rcases e with e | ⟨i, e⟩ | ⟨i, e⟩ <;> exact hn g _ e (by simp) (by simp)).cast rfl rfl rfl rfl fun g e => hl g (by rcases e with e | ⟨i, e⟩ | ⟨i, e⟩ <;> (rw [e]; simp))
  · exact (h.told.keep fun g e => by rcases e with e | ⟨i, e⟩ <;> exact hn g _ e (by simp) (by simp)).cast rfl rfl rfl rfl fun g e => hl g (by rcases e with e | ⟨i, e⟩ <;> (rw [e]; simp))
  · intro e' L' he'
    have he'' : (if e' = e then some L else S.seals e') = some L' := he'
    show (e', Value.map (some (if e' = e then b else B.sk e'))) ∈ _ ∧ HasMap w' (if e' = e then b else B.sk e') L' ∧ (if (if e' = e then b else B.sk e') = b then Lbl.epo e else B.lab (if e' = e then b else B.sk e')) = .epo e'
    by_cases e1 : e' = e
    · rw [if_pos e1] at he'' ⊢
      cases he''
      rw [e1]
      refine ⟨?_, hset.keep (hc.block b hset.lt (by simpa using hbne)), if_pos rfl⟩
      unfold mPut
      rw [if_neg (h2 e hs)]
      simp
    · rw [if_neg e1] at he'' ⊢
      obtain ⟨a1, a2, a3⟩ := h1 e' L' he''
      refine ⟨?_, a2.keep (hn _ _ a3 (by simp) (by simp)), ?_⟩
      · unfold mPut
        rw [if_neg (h2 e hs)]
        exact List.mem_append.2 (.inl a1)
      · rw [if_neg (fun e2 => by rw [e2, hno] at a3; cases a3)]
        exact a3
  · intro e' he'
    have he'' : (if e' = e then some L else S.seals e') = none := he'
    by_cases e1 : e' = e
    · rw [if_pos e1] at he''; cases he''
    · rw [if_neg e1] at he''
      exact fun hh => ((mPut_keys e').1 hh).elim (h2 e' he'') e1
  · exact (h.holds.keep fun g e => by rcases e with e | ⟨i, e⟩ <;> exact hn g _ e (by simp) (by simp)).cast rfl rfl rfl fun g e => hl g (by rcases e with e | ⟨i, e⟩ <;> (rw [e]; simp))
  · intro g hg
    have hg' : (if g = b then Lbl.epo e else B.lab g) ≠ .no := hg
    by_cases e1 : g = b
    · rw [e1, hz]; exact hset.lt
    · rw [if_neg e1] at hg'
      rw [hz]
      exact h.lt g hg'
  · exact ⟨hc.os.trans hb0.os, hc.tape.trans hb0.tape, hc.output.trans hb0.output, by have := hb0.size; omega, fun g hg hn' => (hc.block g (by have := hb0.size; omega) (by simp; intro e; exact hn' (by rw [e, hlb]; simp))).trans (hb0.block g hg)⟩
  · intro g hg
    have hg' : (if g = b then Lbl.epo e else B.lab g) ≠ .no := hg
    by_cases e1 : g = b
    · exact .inr (by omega)
    · rw [if_neg e1] at hg'
      exact .inl hg'

/-- A response that holds no rows. -/
abbrev Mst.pinned (S : Mst) (s : Int) : Mst := ((S.sealed).kept S.now S.L).hold s S.now
/-- A response. -/
structure Rsp where
  k : Int
  i : Int
  er : Int
  ep : Int
  rows : List Rw
  t : Int
  l : Int
  o : Int
  f : Int
  c : Int
  n : Int
abbrev Rsp.no : Rsp := ⟨0, 0, 0, 0, [], 0, 0, 0, 0, 0, 0⟩
/-- A pin of a session: the state behind it, what is refused, the answer. -/
def Mst.pin (S : Mst) (s : Int) : Mst × Int × Rsp :=
  if S.cfg.pi ≤ S.heldN s then (S, 34, Rsp.no) else if S.now = 1099511627776 then (S, 2, Rsp.no) else (S.pinned s, 0, ⟨2, 0, 0, S.now, [], 0, 0, 0, 0, 0, 0⟩)
theorem Mst.Inv.noseal {S : Mst} (h : S.Inv) {e : Int} (he : S.now ≤ e) : S.seals e = none := by
  cases hs : S.seals e with
  | none => rfl
  | some L =>
    obtain ⟨s, hh⟩ := (h.slk e).1 (by rw [hs]; rfl)
    have := h.old s e hh
    omega
theorem Mst.Inv.pinned {S : Mst} (h : S.Inv) {s : Int} (hs1 : 1 ≤ s) (hs2 : s ≤ 64) (hn : S.now < 1099511627776) : (S.pinned s).Inv := by
  have h1 := h.now
  refine ⟨h.cfg, h.msl, h.mrow, h.tdl, h.rise, h.may, ⟨by show 1 ≤ S.now + 1; omega, by show S.now + 1 ≤ _; omega⟩, ?_, ?_, ?_, h.cnt, h.tms, h.tok⟩
  · intro s' e' hh
    have hh' : (S.holds s' e' || (decide (s' = s) && decide (e' = S.now))) = true := hh
    show 1 ≤ s' ∧ s' ≤ 64 ∧ 1 ≤ e' ∧ e' < S.now + 1
    rw [Bool.or_eq_true] at hh'
    rcases hh' with h3 | h3
    · have := h.old s' e' h3
      omega
    · simp at h3
      omega
  · intro e'
    show (if e' = S.now then some S.L else S.seals e').isSome = true ↔ ∃ s', (S.holds s' e' || (decide (s' = s) && decide (e' = S.now))) = true
    by_cases e1 : e' = S.now
    · rw [if_pos e1]
      exact ⟨fun _ => ⟨s, by simp [e1]⟩, fun _ => rfl⟩
    · rw [if_neg e1, h.slk e']
      constructor
      · rintro ⟨s', h3⟩; exact ⟨s', by rw [h3]; rfl⟩
      · rintro ⟨s', h3⟩; exact ⟨s', by simpa [e1] using h3⟩
  · intro e' L' he'
    have he'' : (if e' = S.now then some S.L else S.seals e') = some L' := he'
    by_cases e1 : e' = S.now
    · rw [if_pos e1] at he''; cases he''; exact ⟨h.rise, h.may⟩
    · rw [if_neg e1] at he''; exact h.sok e' L' he''

/-- A response, as cells. -/
abbrev respL (k i er ep : Int) (rows : Value) (t l o f c n : Int) : Array Value := #[.int .i64 k, .int .i64 i, .int .i64 er, .int .i64 ep, rows, .int .i64 t, .int .i64 l, .int .i64 o, .int .i64 f, .int .i64 c, .int .i64 n]
abbrev respO : Obj := .cells (respL 0 0 0 0 (.slice none 0 0) 0 0 0 0 0 0) 41
abbrev Rsp.at (r : Rsp) (v : Value) : Array Value := respL r.k r.i r.er r.ep v r.t r.l r.o r.f r.c r.n
/-- A response that holds no rows and no counts. -/
abbrev respE (k i er ep : Int) : Value := .agg (respL k i er ep (.slice none 0 0) 0 0 0 0 0 0)
theorem bodyPost_resp {fn : Func} {p q : Tmp} (h : fn.results = #[.cell p 41, .tmp q]) {a : Act} {w : World} {R : Ending → World → Prop} {g : Nat} {k i er ep : Int} {rows : Value} {t l o f c n : Int} (hp : a.tmps.getD p undef = .pointer (some ⟨g, 0, none⟩))
    (hb : w.heap[g]? = some (.cells (respL k i er ep rows t l o f c n) 41 (0, 0))) (hd : a.defers = []) (hR : R (.returned (.tuple #[.agg (respL k i er ep rows t l o f c n), a.tmps.getD q undef])) w) : bodyPost Try.prog fn R .ret a w :=
  bodyPost_ret (results_cell_tmp h a.tmps w g 41 _ (0, 0) _ hp hb Try.underlying41 rfl (by kernel_rfl)) hd hR
theorem set11 {w : World} {g : Nat} {t : TypeId} {fr : Nat × Nat} {x0 x1 x2 x3 x4 x5 x6 x7 x8 x9 x10 : Value} (h : w.heap[g]? = some (.cells #[x0, x1, x2, x3, x4, x5, x6, x7, x8, x9, x10] t fr)) (v0 v1 v2 v3 v4 v5 v6 v7 v8 v9 v10 : Value) :
    (((((((((((w.setCell ⟨g, 0, none⟩ v0).setCell ⟨g, 1, none⟩ v1).setCell ⟨g, 2, none⟩ v2).setCell ⟨g, 3, none⟩ v3).setCell ⟨g, 4, none⟩ v4).setCell ⟨g, 5, none⟩ v5).setCell ⟨g, 6, none⟩ v6).setCell ⟨g, 7, none⟩ v7).setCell ⟨g, 8, none⟩ v8).setCell ⟨g, 9, none⟩ v9).setCell ⟨g, 10, none⟩ v10).heap[g]? = some (.cells #[v0, v1, v2, v3, v4, v5, v6, v7, v8, v9, v10] t fr) := by
  have h0 : (w.setCell ⟨g, 0, none⟩ v0).heap[g]? = some (.cells #[v0, x1, x2, x3, x4, x5, x6, x7, x8, x9, x10] t fr) := set_obj h 0 v0
  have h1 : ((w.setCell ⟨g, 0, none⟩ v0).setCell ⟨g, 1, none⟩ v1).heap[g]? = some (.cells #[v0, v1, x2, x3, x4, x5, x6, x7, x8, x9, x10] t fr) := set_obj h0 1 v1
  have h2 : (((w.setCell ⟨g, 0, none⟩ v0).setCell ⟨g, 1, none⟩ v1).setCell ⟨g, 2, none⟩ v2).heap[g]? = some (.cells #[v0, v1, v2, x3, x4, x5, x6, x7, x8, x9, x10] t fr) := set_obj h1 2 v2
  have h3 : ((((w.setCell ⟨g, 0, none⟩ v0).setCell ⟨g, 1, none⟩ v1).setCell ⟨g, 2, none⟩ v2).setCell ⟨g, 3, none⟩ v3).heap[g]? = some (.cells #[v0, v1, v2, v3, x4, x5, x6, x7, x8, x9, x10] t fr) := set_obj h2 3 v3
  have h4 : (((((w.setCell ⟨g, 0, none⟩ v0).setCell ⟨g, 1, none⟩ v1).setCell ⟨g, 2, none⟩ v2).setCell ⟨g, 3, none⟩ v3).setCell ⟨g, 4, none⟩ v4).heap[g]? = some (.cells #[v0, v1, v2, v3, v4, x5, x6, x7, x8, x9, x10] t fr) := set_obj h3 4 v4
  have h5 : ((((((w.setCell ⟨g, 0, none⟩ v0).setCell ⟨g, 1, none⟩ v1).setCell ⟨g, 2, none⟩ v2).setCell ⟨g, 3, none⟩ v3).setCell ⟨g, 4, none⟩ v4).setCell ⟨g, 5, none⟩ v5).heap[g]? = some (.cells #[v0, v1, v2, v3, v4, v5, x6, x7, x8, x9, x10] t fr) := set_obj h4 5 v5
  have h6 : (((((((w.setCell ⟨g, 0, none⟩ v0).setCell ⟨g, 1, none⟩ v1).setCell ⟨g, 2, none⟩ v2).setCell ⟨g, 3, none⟩ v3).setCell ⟨g, 4, none⟩ v4).setCell ⟨g, 5, none⟩ v5).setCell ⟨g, 6, none⟩ v6).heap[g]? = some (.cells #[v0, v1, v2, v3, v4, v5, v6, x7, x8, x9, x10] t fr) := set_obj h5 6 v6
  have h7 : ((((((((w.setCell ⟨g, 0, none⟩ v0).setCell ⟨g, 1, none⟩ v1).setCell ⟨g, 2, none⟩ v2).setCell ⟨g, 3, none⟩ v3).setCell ⟨g, 4, none⟩ v4).setCell ⟨g, 5, none⟩ v5).setCell ⟨g, 6, none⟩ v6).setCell ⟨g, 7, none⟩ v7).heap[g]? = some (.cells #[v0, v1, v2, v3, v4, v5, v6, v7, x8, x9, x10] t fr) := set_obj h6 7 v7
  have h8 : (((((((((w.setCell ⟨g, 0, none⟩ v0).setCell ⟨g, 1, none⟩ v1).setCell ⟨g, 2, none⟩ v2).setCell ⟨g, 3, none⟩ v3).setCell ⟨g, 4, none⟩ v4).setCell ⟨g, 5, none⟩ v5).setCell ⟨g, 6, none⟩ v6).setCell ⟨g, 7, none⟩ v7).setCell ⟨g, 8, none⟩ v8).heap[g]? = some (.cells #[v0, v1, v2, v3, v4, v5, v6, v7, v8, x9, x10] t fr) := set_obj h7 8 v8
  have h9 : ((((((((((w.setCell ⟨g, 0, none⟩ v0).setCell ⟨g, 1, none⟩ v1).setCell ⟨g, 2, none⟩ v2).setCell ⟨g, 3, none⟩ v3).setCell ⟨g, 4, none⟩ v4).setCell ⟨g, 5, none⟩ v5).setCell ⟨g, 6, none⟩ v6).setCell ⟨g, 7, none⟩ v7).setCell ⟨g, 8, none⟩ v8).setCell ⟨g, 9, none⟩ v9).heap[g]? = some (.cells #[v0, v1, v2, v3, v4, v5, v6, v7, v8, v9, x10] t fr) := set_obj h8 9 v9
  have h10 : (((((((((((w.setCell ⟨g, 0, none⟩ v0).setCell ⟨g, 1, none⟩ v1).setCell ⟨g, 2, none⟩ v2).setCell ⟨g, 3, none⟩ v3).setCell ⟨g, 4, none⟩ v4).setCell ⟨g, 5, none⟩ v5).setCell ⟨g, 6, none⟩ v6).setCell ⟨g, 7, none⟩ v7).setCell ⟨g, 8, none⟩ v8).setCell ⟨g, 9, none⟩ v9).setCell ⟨g, 10, none⟩ v10).heap[g]? = some (.cells #[v0, v1, v2, v3, v4, v5, v6, v7, v8, v9, v10] t fr) := set_obj h9 10 v10
  exact h10
theorem below11 {B g : Nat} {w0 w : World} (h : Below B w0 w) (hg : B ≤ g) (v0 v1 v2 v3 v4 v5 v6 v7 v8 v9 v10 : Value) : Below B w0 (((((((((((w.setCell ⟨g, 0, none⟩ v0).setCell ⟨g, 1, none⟩ v1).setCell ⟨g, 2, none⟩ v2).setCell ⟨g, 3, none⟩ v3).setCell ⟨g, 4, none⟩ v4).setCell ⟨g, 5, none⟩ v5).setCell ⟨g, 6, none⟩ v6).setCell ⟨g, 7, none⟩ v7).setCell ⟨g, 8, none⟩ v8).setCell ⟨g, 9, none⟩ v9).setCell ⟨g, 10, none⟩ v10) :=
  ((((((((((h.setCell (p := ⟨g, 0, none⟩) hg v0).setCell (p := ⟨g, 1, none⟩) hg v1).setCell (p := ⟨g, 2, none⟩) hg v2).setCell (p := ⟨g, 3, none⟩) hg v3).setCell (p := ⟨g, 4, none⟩) hg v4).setCell (p := ⟨g, 5, none⟩) hg v5).setCell (p := ⟨g, 6, none⟩) hg v6).setCell (p := ⟨g, 7, none⟩) hg v7).setCell (p := ⟨g, 8, none⟩) hg v8).setCell (p := ⟨g, 9, none⟩) hg v9).setCell (p := ⟨g, 10, none⟩) hg v10
/-- What stays where it is asked how many epochs a session holds. -/
abbrev PinB (mp bh : Nat) (s : Int) (hb : Option Nat) (hn : Nat) (pi : Int) (W0 W : World) : Prop := Below W0.heap.size W0 W ∧ W.cell? ⟨mp, 17, none⟩ = some (.map (some bh)) ∧ W.cell? ⟨mp, 7, none⟩ = some (.int .i64 pi) ∧
  (Instr.lookup 85 (.map (some bh)) (.int .i64 s) false).run Try.prog W = .ok (.map hb) W ∧ (Builtin.len_ #[138] 3 #[.map hb]).run Try.prog W = .ok (.int .i64 hn) W
theorem IsModel.pinB {w : World} {B : MB} {S : Mst} (h : IsModel w B S) (s : Int) {W0 : World} (h0 : Below w.heap.size w W0) : ∀ W, Below W0.heap.size W0 W → PinB B.mp B.bh s (B.hk s) (S.heldN s) S.cfg.pi W0 W := by
  intro W hW
  have hm := h.below (h0.trans (hW.mono h0.size))
  obtain ⟨_, _, _, c7, _, _, _, _, _, c17, _⟩ := hm.obj.cells
  exact ⟨hW, c17, c7, hm.holds.get s, hm.holds.len s (fun e he => ⟨(h.inv.old s e he).2.2.1, (h.inv.old s e he).2.2.2⟩) _⟩
set_option maxRecDepth 100000 in
set_option maxHeartbeats 4000000 in
theorem pin_full {w : World} {B : MB} {S : Mst} (h : IsModel w B S) (s : Int) (hp : S.cfg.pi ≤ S.heldN s) :
    Calls Try.prog 39 #[.pointer (some ⟨B.mp, 0, none⟩), .int .i64 s] w fun e w' => e = .returned (.tuple #[respE 0 0 0 0, .int .i64 34]) ∧ Below w.heap.size w w' := by
  have hb0 : ∀ o : Obj, Below w.heap.size w (w.alloc o) := fun o => (Below.refl _ _).alloc (Nat.le_refl _) _
  have hk := fun W hW => h.pinB s (W0 := W) hW
  generalize B.hk s = hb at *
  generalize S.heldN s = hn at *
  generalize S.cfg.pi = pi at *
  have Hk := Lib.hid hk
  clear h hk
  go_enter Try.func39, Try.ntmps39
  go_wp2_with fail
  generalize hW1 : World.alloc w _ = W1
  have hb1 : Below w.heap.size w W1 := by rw [← hW1]; exact hb0 _
  have hf1 : W1.heap[w.heap.size]? = some respO := by rw [← hW1]; exact blk_at rfl
  have rf := frozen_blk hf1
  have z0 := cell_blk hf1 0
  have z1 := cell_blk hf1 1
  have z2 := cell_blk hf1 2
  have z3 := cell_blk hf1 3
  have z4 := cell_blk hf1 4
  have z5 := cell_blk hf1 5
  have z6 := cell_blk hf1 6
  have z7 := cell_blk hf1 7
  have z8 := cell_blk hf1 8
  have z9 := cell_blk hf1 9
  have z10 := cell_blk hf1 10
  simp at z0 z1 z2 z3 z4 z5 z6 z7 z8 z9 z10
  have kD := Hk.out W1 hb1 _ (Below.refl _ _).drew
  go_region_held3 (fun W => PinB B.mp B.bh s hb hn pi W1 W) (first | exact kD | assumption) (fail)
  go_wp2_with fail
  refine bodyPost_resp rfl rfl (drew_blk (set11 hf1 _ _ _ _ _ _ _ _ _ _ _)) rfl ⟨rfl, ?_⟩
  exact (below11 hb1 (Nat.le_refl _) _ _ _ _ _ _ _ _ _ _ _).drew
theorem IsModel.parts {w : World} {B : MB} {S : Mst} (h : IsModel w B S) : Parts w B S := ⟨h.obj, h.views, h.there, h.marks, h.told, h.seals, h.holds, h.lt⟩
theorem pin_many {w : World} {B : MB} {S : Mst} (h : IsModel w B S) (s : Int) (hp : S.heldN s < S.cfg.pi) (hn : S.now = 1099511627776) :
    Calls Try.prog 39 #[.pointer (some ⟨B.mp, 0, none⟩), .int .i64 s] w fun e w' => e = .returned (.tuple #[respE 0 0 0 0, .int .i64 2]) ∧ Below w.heap.size w w' := by
  have hb0 : ∀ o : Obj, Below w.heap.size w (w.alloc o) := fun o => (Below.refl _ _).alloc (Nat.le_refl _) _
  have hk := fun W hW => h.pinB s (W0 := W) hW
  have hse := fun W (hW : Below w.heap.size w W) => seal_full (h.below hW) hn
  have hp' : ¬ S.cfg.pi ≤ S.heldN s := by omega
  generalize B.hk s = hb at *
  generalize S.heldN s = hn at *
  generalize S.cfg.pi = pi at *
  have Hk := Lib.hid hk
  have Hse := Lib.hid hse
  clear h hk hse hp
  go_enter Try.func39, Try.ntmps39
  go_wp2_with fail
  generalize hW1 : World.alloc w _ = W1
  have hb1 : Below w.heap.size w W1 := by rw [← hW1]; exact hb0 _
  have hf1 : W1.heap[w.heap.size]? = some respO := by rw [← hW1]; exact blk_at rfl
  have rf := frozen_blk hf1
  have z0 := cell_blk hf1 0
  have z1 := cell_blk hf1 1
  have z2 := cell_blk hf1 2
  have z3 := cell_blk hf1 3
  have z4 := cell_blk hf1 4
  have z5 := cell_blk hf1 5
  have z6 := cell_blk hf1 6
  have z7 := cell_blk hf1 7
  have z8 := cell_blk hf1 8
  have z9 := cell_blk hf1 9
  have z10 := cell_blk hf1 10
  simp at z0 z1 z2 z3 z4 z5 z6 z7 z8 z9 z10
  have kD := Hk.out W1 hb1 _ (Below.refl _ _).drew
  go_region_held3 (fun W => PinB B.mp B.bh s hb hn pi W1 W) (first | exact kD | assumption) (fail)
  have hse := Hse.out _ hb1.drew
  go_wp2_with fail
  refine hse.mono ?_
  rintro e w2 ⟨rfl, rfl⟩
  go_wp2_with fail
  refine bodyPost_resp rfl rfl (drew_blk (set11 hf1 _ _ _ _ _ _ _ _ _ _ _)) rfl ⟨rfl, ?_⟩
  exact (below11 hb1 (Nat.le_refl _) _ _ _ _ _ _ _ _ _ _ _).drew
abbrev PinS (mp bs bt : Nat) (W : World) : Prop := W.cell? ⟨mp, 16, none⟩ = some (.map (some bs)) ∧ W.cell? ⟨mp, 12, none⟩ = some (.map (some bt))
theorem Parts.pinS {w : World} {B : MB} {S : Mst} (h : Parts w B S) : PinS B.mp B.bs B.bt w := by
  obtain ⟨_, _, _, _, c12, _, _, _, c16, _⟩ := h.obj.cells
  exact ⟨c16, c12⟩
abbrev PinC (mp bs bt : Nat) (W0 W : World) : Prop := Below W0.heap.size W0 W ∧ W.cell? ⟨mp, 16, none⟩ = some (.map (some bs)) ∧ W.cell? ⟨mp, 12, none⟩ = some (.map (some bt))
theorem Turn.late {w w1 w2 : World} {B B' : MB} (h : Turn w w1 B B') (k : Below w.heap.size w1 w2) : Turn w w2 B B' :=
  ⟨h.mp, ⟨k.os.trans h.chg.os, k.tape.trans h.chg.tape, k.output.trans h.chg.output, Nat.le_trans h.chg.size k.size, fun g hg hn => (k.block g hg).trans (h.chg.block g hg hn)⟩, h.lab⟩
/-- What an answer is written into is no block of the model. -/
theorem IsModel.answered {w1 w2 : World} {B : MB} {S : Mst} (h : IsModel w1 B S) {g : Nat} (hg : B.lab g = .no) (hc : Chg [g] w1 w2) : IsModel w2 B S :=
  h.keep hc.size fun k hk => hc.block k (h.lt k hk) (by simp; intro e; exact hk (by rw [e]; exact hg))
set_option maxRecDepth 100000 in
set_option maxHeartbeats 1000000 in
theorem pin_ok {w : World} {B : MB} {S : Mst} (h : IsModel w B S) (s : Int) (hs1 : 1 ≤ s) (hs2 : s ≤ 64) (hp : S.heldN s < S.cfg.pi) (hn : S.now < 1099511627776) :
    Calls Try.prog 39 #[.pointer (some ⟨B.mp, 0, none⟩), .int .i64 s] w fun e w' => e = .returned (.tuple #[respE 2 0 0 S.now, .int .i64 0]) ∧ ∃ B', IsModel w' B' (S.pinned s) ∧ Turn w w' B B' := by
  have hb0 : ∀ o : Obj, Below w.heap.size w (w.alloc o) := fun o => (Below.refl _ _).alloc (Nat.le_refl _) _
  have hk := fun W hW => h.pinB s (W0 := W) hW
  have hp' : ¬ S.cfg.pi ≤ S.heldN s := by omega
  have Hh := Lib.hid h
  have Hn := Lib.hid hn
  have hno : B.lab w.heap.size = .no := by
    refine Decidable.byContradiction fun hn => ?_
    have := h.lt _ hn
    omega
  have hmp : B.mp < w.heap.size := h.lt _ (by rw [h.obj.lb]; simp)
  generalize hbE : B.hk s = hb at *
  generalize hnE : S.heldN s = hn at *
  generalize hpE : S.cfg.pi = pi at *
  have Hk := Lib.hid hk
  clear h hk hp hbE hnE hpE
  go_enter Try.func39, Try.ntmps39
  go_wp2_with fail
  generalize hW1 : World.alloc w _ = W1
  have hb1 : Below w.heap.size w W1 := by rw [← hW1]; exact hb0 _
  have hf1 : W1.heap[w.heap.size]? = some respO := by rw [← hW1]; exact blk_at rfl
  have Hf1 := Lib.hid hf1
  clear hf1 hW1
  have kD := Hk.out W1 hb1 _ (Below.refl _ _).drew
  go_region_held3 (fun W => PinB B.mp B.bh s hb hn pi W1 W) (first | exact kD | assumption) (fail)
  have hse := seal_ok (Hh.out.below hb1.drew) Hn.out
  go_wp2_with fail
  refine hse.mono ?_
  rintro e w2 ⟨rfl, hM2, hc2⟩
  have hzz1 := lt_of_block Hf1.out
  have hT2 : Turn W1 w2 B B := (Turn.of_below B (Below.refl W1.heap.size W1).drew).trans (Turn.of_chg hc2 (fun g hg => by rw [List.mem_singleton.1 hg, Hh.out.obj.lb]; simp))
  have hf2 : w2.heap[w.heap.size]? = some respO := (hc2.block _ hzz1 (by simp; omega)).trans Hf1.out
  have HM2 := Lib.hid hM2
  have HT2 := Lib.hid hT2
  have Hf2 := Lib.hid hf2
  clear hse hM2 hc2 hT2 hf2
  go_wp2_with fail
  have kC : ∀ W, Below w2.heap.size w2 W → PinC B.mp B.bs B.bt w2 W := by
    intro W hW
    obtain ⟨_, _, _, _, c12, _, _, _, c16, _⟩ := (HM2.out.below hW).obj.cells
    exact ⟨hW, c16, c12⟩
  have kCD := kC _ (Below.refl _ _).drew
  have hcl : ∀ W, Below w2.heap.size w2 W → Calls Try.prog 67 #[.map (some B.bt)] W fun e w' => e = .returned (.map (some W.heap.size)) ∧ HasMap w' W.heap.size S.L ∧ Below W.heap.size W w' ∧ W.heap.size < w'.heap.size := fun W hW => mclone_any B.bt S.L W (HM2.out.below hW).there.map
  have hup : ∀ W, Below w2.heap.size w2 W → HasMap W w2.heap.size S.L → ∃ w', (Instr.mapUpdate 84 (.map (some B.bs)) (.int .i64 S.now) (.map (some w2.heap.size))).run Try.prog W = .ok () w' ∧ Parts w' (B.kept S.now w2.heap.size) (S.sealed.kept S.now S.L) ∧ Turn w2 w' B (B.kept S.now w2.heap.size) := by
    intro W hW hm
    refine Parts.keptAt (w0 := w2) (HM2.out.below hW).parts S.now S.L w2.heap.size hm ?_ (Hh.out.inv.noseal (Int.le_refl _)) hW (Nat.le_refl _)
    refine Decidable.byContradiction fun hn => ?_
    have := HM2.out.lt _ hn
    omega
  have Hup := Lib.hid hup
  clear hup kD
  have kS : PinS B.mp B.bs B.bt w2.drew := kCD.2
  go_region_held3 (fun W => PinS B.mp B.bs B.bt W) (first | exact kS | assumption)
    (first
      | (go_at_call 67; refine (hcl _ kCD.1).mono ?_; rintro e w3 ⟨rfl, hset3, hb3, hz3⟩; have hk3 := kC w3 (Below.trans kCD.1 (hb3.mono kCD.1.size)); have hk3s : PinS B.mp B.bs B.bt w3 := hk3.2; obtain ⟨w4, hrun4, hP4, hT4⟩ := Hup.out w3 hk3.1 hset3; have hk4s : PinS B.mp B.bs B.bt w4 := hP4.pinS))
  have hf4 : w4.heap[w.heap.size]? = some respO := (hT4.chg.block _ (lt_of_block Hf2.out) (fun hn => hn hno)).trans Hf2.out
  have HP4 := Lib.hid hP4
  have HT4 := Lib.hid (HT2.out.trans hT4)
  have Hf4 := Lib.hid hf4
  have hho := hold_parts hP4 s S.now
  clear kC kCD kS hset3 hb3 hk3 hk3s hk4s hrun4 hP4 hT4 hf4 hcl
  go_wp2_with fail
  refine hho.mono ?_
  rintro e w5 ⟨rfl, B', hP5, hT5⟩
  have hno5 : (B.kept S.now w2.heap.size).lab w.heap.size = .no := by
    show (if w.heap.size = w2.heap.size then Lbl.epo S.now else B.lab w.heap.size) = .no
    have := lt_of_block Hf2.out
    rw [if_neg (by omega)]
    exact hno
  have hf5 : w5.heap[w.heap.size]? = some respO := (hT5.chg.block _ (lt_of_block Hf4.out) (fun hn => hn hno5)).trans Hf4.out
  have hT5' := HT4.out.trans hT5
  have hno6 : B'.lab w.heap.size = .no := by
    refine Decidable.byContradiction fun hn => ?_
    rcases hT5'.lab _ hn with h | h
    · exact h hno
    · omega
  have hM5 : IsModel w5 B' (S.pinned s) := hP5.model (Hh.out.inv.pinned hs1 hs2 Hn.out)
  have HM5 := Lib.hid hM5
  have HT5 := Lib.hid hT5'
  have Hf5 := Lib.hid hf5
  have rf := frozen_blk hf5
  have z0 := cell_blk hf5 0
  have z1 := cell_blk hf5 1
  have z2 := cell_blk hf5 2
  have z3 := cell_blk hf5 3
  have z4 := cell_blk hf5 4
  have z5 := cell_blk hf5 5
  have z6 := cell_blk hf5 6
  have z7 := cell_blk hf5 7
  have z8 := cell_blk hf5 8
  have z9 := cell_blk hf5 9
  have z10 := cell_blk hf5 10
  simp at z0 z1 z2 z3 z4 z5 z6 z7 z8 z9 z10
  have Hno6 := Lib.hid hno6
  clear hP5 hT5 hf5 hT5' hM5 hho hno5 hno6 hno
  go_wp2_with fail
  refine bodyPost_resp (g := w.heap.size) (k := 2) (i := 0) (er := 0) (ep := S.now) (rows := .slice none 0 0) (t := 0) (l := 0) (o := 0) (f := 0) (c := 0) (n := 0) rfl rfl ?_ rfl ⟨rfl, B', ?_, ?_⟩
  · exact set11 Hf5.out _ _ _ _ _ _ _ _ _ _ _
  · exact HM5.out.answered Hno6.out ((((((((((((Chg.refl _ w5).trans (Chg.set _ (a := ⟨w.heap.size, 0, none⟩) (by simp) _)).trans (Chg.set _ (a := ⟨w.heap.size, 1, none⟩) (by simp) _)).trans (Chg.set _ (a := ⟨w.heap.size, 2, none⟩) (by simp) _)).trans (Chg.set _ (a := ⟨w.heap.size, 3, none⟩) (by simp) _)).trans (Chg.set _ (a := ⟨w.heap.size, 4, none⟩) (by simp) _)).trans (Chg.set _ (a := ⟨w.heap.size, 5, none⟩) (by simp) _)).trans (Chg.set _ (a := ⟨w.heap.size, 6, none⟩) (by simp) _)).trans (Chg.set _ (a := ⟨w.heap.size, 7, none⟩) (by simp) _)).trans (Chg.set _ (a := ⟨w.heap.size, 8, none⟩) (by simp) _)).trans (Chg.set _ (a := ⟨w.heap.size, 9, none⟩) (by simp) _)).trans (Chg.set _ (a := ⟨w.heap.size, 10, none⟩) (by simp) _))
  · exact ((Turn.of_below B hb1).trans HT5.out).late (below11 (Below.refl _ _) (by have := HT5.out.chg.size; have := hb1.size; omega) _ _ _ _ _ _ _ _ _ _ _)

/-- What an inner answer says: the response, the errno, the model behind it; the rows are new memory. -/
def Says (w : World) (B : MB) (x : Mst × Int × Rsp) (e : Ending) (w' : World) : Prop :=
  ∃ v B', e = .returned (.tuple #[.agg (x.2.2.at v), .int .i64 x.2.1]) ∧ Own 53 7 rowL w.heap.size w' v x.2.2.rows ∧ IsModel w' B' x.1 ∧ Turn w w' B B' ∧ ∀ g, v.ownBlock = some g → B'.lab g = .no
theorem Says.none {w w' : World} {B B' : MB} {S : Mst} {er k i re ep : Int} {e : Ending} (he : e = .returned (.tuple #[respE k i re ep, .int .i64 er])) (hM : IsModel w' B' S) (hT : Turn w w' B B') : Says w B (S, er, ⟨k, i, re, ep, [], 0, 0, 0, 0, 0, 0⟩) e w' :=
  ⟨.slice Option.none 0 0, B', he, Own.nil _ _ _ _ _, hM, hT, fun g hg => by cases hg⟩
theorem pin_any {w : World} {B : MB} {S : Mst} (h : IsModel w B S) (s : Int) (hs1 : 1 ≤ s) (hs2 : s ≤ 64) : Calls Try.prog 39 #[.pointer (some ⟨B.mp, 0, none⟩), .int .i64 s] w (Says w B (S.pin s)) := by
  unfold Mst.pin
  by_cases h1 : S.cfg.pi ≤ S.heldN s
  · rw [if_pos h1]
    refine (pin_full h s h1).mono ?_
    rintro e w' ⟨he, hb⟩
    exact Says.none he (h.below hb) (Turn.of_below B hb)
  · rw [if_neg h1]
    by_cases h2 : S.now = 1099511627776
    · rw [if_pos h2]
      refine (pin_many h s (by omega) h2).mono ?_
      rintro e w' ⟨he, hb⟩
      exact Says.none he (h.below hb) (Turn.of_below B hb)
    · rw [if_neg h2]
      refine (pin_ok h s hs1 hs2 (by omega) (by have := h.inv.now.2; omega)).mono ?_
      rintro e w' ⟨he, B', hM, hT⟩
      exact Says.none he hM hT
end Go.Proofs.Ytaicecnfodhlcaa
