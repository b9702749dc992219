/- Equality of cells; maps whose keys are cells. -/
import Derived.Test.YtaicecnfodhlcaaOpen
import Derived.Maps.RangeWalk
set_option linter.unusedVariables false
set_option linter.unusedSimpArgs false
namespace Go.Proofs.Ytaicecnfodhlcaa
open Go.RowKit

/-! ### '==' at a struct -/
section
variable {P : Program} {w : World} {d : Nat} {xs ys : Array Value} {f : Field} {fs : List Field} {a b : Value} {r s : Bool}
theorem fields_last (hn : (f.name == "_") = false) (ha : (part f.type xs f.offset).run P w = .ok a w) (hb : (part f.type ys f.offset).run P w = .ok b w) (he : (Op.equalIn d f.type a b).run P w = .ok r w) : (Op.eqFields d xs ys [f]).run P w = .ok r w := by
  have hn' : f.name ≠ "_" := by simpa using hn
  simp only [Op.eqFields, if_pos hn', Sem.run_bind, ha, hb, he, Result.andThen_ok]
  cases r <;> simp
theorem fields_cons (hn : (f.name == "_") = false) (ha : (part f.type xs f.offset).run P w = .ok a w) (hb : (part f.type ys f.offset).run P w = .ok b w) (he : (Op.equalIn d f.type a b).run P w = .ok r w) (hr : (Op.eqFields d xs ys fs).run P w = .ok s w) : (Op.eqFields d xs ys (f :: fs)).run P w = .ok (r && s) w := by
  have hn' : f.name ≠ "_" := by simpa using hn
  rw [Op.eqFields]
  simp only [if_pos hn', Sem.run_bind, ha, hb, he, Result.andThen_ok]
  cases r
  · simp
  · simpa using hr
theorem eq_struct {t : TypeId} {fs : Array Field} (hu : P.underlying t = some (.struct fs)) (hp : P.stoodInHeld t = false) (h : (Op.eqFields d xs ys fs.toList).run P w = .ok r w) : (Op.equalIn (d + 1) t (.agg xs) (.agg ys)).run P w = .ok r w := by
  have hf : P.fieldsOf t = fs := by simp [Program.fieldsOf, hu]
  rw [run_equalIn_struct (P := P) w d t xs ys (by rw [hf]; exact hu) hp, hf]
  exact h
end

abbrev cellV (c : Cell) : Value := .agg #[.int .i64 c.v, .string c.k, .int .i64 c.s]
abbrev viewV (c : View) : Value := .agg #[.int .i64 c.size, .int .i64 c.slide, .int .i64 c.late]

theorem beq_bytes (a b : ByteArray) : (a.toList == b.toList) = decide (a = b) := by
  rw [← beq_toListBytes]
  obtain ⟨x⟩ := a
  obtain ⟨y⟩ := b
  show (x == y) = decide ((⟨x⟩ : ByteArray) = ⟨y⟩)
  by_cases h : x = y
  · subst h; simp
  · simp [h]

theorem equal_cell (n : Nat) (v1 : Int) (k1 : ByteArray) (s1 : Int) (v2 : Int) (k2 : ByteArray) (s2 : Int) (w : World) : (Op.equalIn (n + 2) 46 (.agg #[.int .i64 v1, .string k1, .int .i64 s1]) (.agg #[.int .i64 v2, .string k2, .int .i64 s2])).run Try.prog w = .ok (decide ((⟨v1, k1, s1⟩ : Cell) = ⟨v2, k2, s2⟩)) w := by
  have e : decide ((⟨v1, k1, s1⟩ : Cell) = ⟨v2, k2, s2⟩) = ((v1 == v2) && ((k1.toList == k2.toList) && (s1 == s2))) := by
    rw [beq_bytes, Bool.eq_iff_iff]
    simp
  rw [e]
  refine eq_struct Try.underlying46 (by kernel_rfl) ?_
  refine fields_cons (by rfl) (by go_simp; rfl) (by go_simp; rfl) (by go_simp) ?_
  refine fields_cons (by rfl) (by go_simp; rfl) (by go_simp; rfl) (by go_simp) ?_
  exact fields_last (by rfl) (by go_simp; rfl) (by go_simp; rfl) (by go_simp)
theorem equal_view (n : Nat) (v1 k1 s1 v2 k2 s2 : Int) (w : World) : (Op.equalIn (n + 2) 76 (.agg #[.int .i64 v1, .int .i64 k1, .int .i64 s1]) (.agg #[.int .i64 v2, .int .i64 k2, .int .i64 s2])).run Try.prog w = .ok (decide ((⟨v1, k1, s1⟩ : View) = ⟨v2, k2, s2⟩)) w := by
  have e : decide ((⟨v1, k1, s1⟩ : View) = ⟨v2, k2, s2⟩) = ((v1 == v2) && ((k1 == k2) && (s1 == s2))) := by
    rw [Bool.eq_iff_iff]
    simp
  rw [e]
  refine eq_struct Try.underlying76 (by kernel_rfl) ?_
  refine fields_cons (by rfl) (by go_simp; rfl) (by go_simp; rfl) (by go_simp) ?_
  refine fields_cons (by rfl) (by go_simp; rfl) (by go_simp; rfl) (by go_simp) ?_
  exact fields_last (by rfl) (by go_simp; rfl) (by go_simp; rfl) (by go_simp)

theorem run_eql_cell (v1 : Int) (k1 : ByteArray) (s1 : Int) (v2 : Int) (k2 : ByteArray) (s2 : Int) (w : World) : (binOp .eql 46 (.agg #[.int .i64 v1, .string k1, .int .i64 s1]) (.agg #[.int .i64 v2, .string k2, .int .i64 s2])).run Try.prog w = .ok (.bool (decide ((⟨v1, k1, s1⟩ : Cell) = ⟨v2, k2, s2⟩))) w := by
  rw [run_eql_struct, equal_cell]; rfl
theorem run_neq_cell (v1 : Int) (k1 : ByteArray) (s1 : Int) (v2 : Int) (k2 : ByteArray) (s2 : Int) (w : World) : (binOp .neq 46 (.agg #[.int .i64 v1, .string k1, .int .i64 s1]) (.agg #[.int .i64 v2, .string k2, .int .i64 s2])).run Try.prog w = .ok (.bool (!decide ((⟨v1, k1, s1⟩ : Cell) = ⟨v2, k2, s2⟩))) w := by
  rw [run_neq_struct, equal_cell]; rfl
theorem run_eql_view (v1 k1 s1 v2 k2 s2 : Int) (w : World) : (binOp .eql 76 (.agg #[.int .i64 v1, .int .i64 k1, .int .i64 s1]) (.agg #[.int .i64 v2, .int .i64 k2, .int .i64 s2])).run Try.prog w = .ok (.bool (decide ((⟨v1, k1, s1⟩ : View) = ⟨v2, k2, s2⟩))) w := by
  rw [run_eql_struct, equal_view]; rfl

theorem checkKey_cell (b : Bool) (v : Int) (k : ByteArray) (s : Int) (w : World) : (Instr.checkKey b 10000 46 (.agg #[.int .i64 v, .string k, .int .i64 s])).run Try.prog w = .ok () w := by
  kernel_rfl

/-! ### maps -/
/-- What the laws ask of a key type: κ's members stand as kV. -/
structure KeyT (P : Program) (kt : TypeId) {κ : Type} (kV : κ → Value) : Prop where
  check : ∀ (b : Bool) (c : κ) (w : World), (Instr.checkKey b 10000 kt (kV c)).run P w = .ok () w
  bits : ∀ c, Instr.sameBits 10000 (kV c) (kV c) = true
  hit : ∀ (w : World) (c : κ) (es : List MapEntry) (cs : List κ), es.map (·.key) = cs.map kV → c ∈ cs → ∃ (j : Nat) (hj : j < es.length), cs[j]? = some c ∧ (Instr.findKey kt (kV c) es).run P w = .ok (some (j, es[j].val)) w
  miss : ∀ (w : World) (c : κ) (es : List MapEntry) (cs : List κ), es.map (·.key) = cs.map kV → c ∉ cs → (Instr.findKey kt (kV c) es).run P w = .ok none w

/-- BLOCK r IS A MAP THAT HOLDS m (keys, values; each key once). -/
structure MapIs {κ : Type} (kV : κ → Value) (w : World) (r : Nat) (m : List (κ × Value)) : Prop where
  nd : (m.map (·.1)).Nodup
  blk : ∃ es clock, w.heap[r]? = some (.map es clock) ∧ es.toList.map (fun e => (e.key, e.val)) = m.map (fun p => (kV p.1, p.2)) ∧ (es.toList.map (·.born)).Nodup ∧ ∀ e ∈ es.toList, e.born < clock

section
variable {κ : Type} {kV : κ → Value} {w : World} {r : Nat} {m : List (κ × Value)}
theorem MapIs.lt (h : MapIs kV w r m) : r < w.heap.size := by obtain ⟨es, clock, hb, _⟩ := h.blk; exact lt_of_block hb
theorem MapIs.keep {w' : World} (h : MapIs kV w r m) (hb : w'.heap[r]? = w.heap[r]?) : MapIs kV w' r m := by
  obtain ⟨hn, es, clock, h1, h2⟩ := h
  exact ⟨hn, es, clock, hb.trans h1, h2⟩
theorem MapIs.new (w : World) : MapIs kV (w.alloc (.map #[] 0)) w.heap.size ([] : List (κ × Value)) :=
  ⟨by simp, #[], 0, blk_at rfl, by simp, by simp, by simp⟩

theorem keys_of {m : List (κ × Value)} {es : List MapEntry} (h : es.map (fun e => (e.key, e.val)) = m.map (fun p => (kV p.1, p.2))) : es.map (·.key) = (m.map (·.1)).map kV := by
  have := congrArg (List.map (·.1)) h
  simpa [Function.comp_def] using this
def putMap (w : World) (r : Nat) (es : Array MapEntry) (clock : Nat) : World := { w with heap := w.heap.setIfInBounds r (.map es clock) }
theorem putMap_at {w : World} {r : Nat} {es : Array MapEntry} {clock : Nat} (h : r < w.heap.size) : (putMap w r es clock).heap[r]? = some (.map es clock) := by
  simp [putMap, h]
theorem grown_putMap (w : World) (r : Nat) (es : Array MapEntry) (clock : Nat) : w.grownBy (putMap w r es clock) (some r) :=
  ⟨rfl, rfl, rfl, by simp [putMap], fun k _ hk => by
    show (w.heap.setIfInBounds r _)[k]? = _
    rw [Array.getElem?_setIfInBounds, if_neg (fun e => hk (by rw [e]))]⟩
theorem eraseIdx_map' {α β : Type} (f : α → β) : ∀ (l : List α) (j : Nat), (l.map f).eraseIdx j = (l.eraseIdx j).map f
  | [], _ => rfl
  | _ :: _, 0 => rfl
  | x :: r, j + 1 => by simp [eraseIdx_map' f r j]
theorem map_modify_same {α β : Type} {f : α → α} {g : α → β} (h : ∀ x, g (f x) = g x) {l : List α} {j : Nat} : (l.modify j f).map g = l.map g := by
  apply List.ext_getElem?
  intro i
  simp only [List.getElem?_map, List.getElem?_modify]
  split
  · cases l[i]? <;> simp [h]
  · simp

variable [DecidableEq κ]
theorem filter_eraseIdx {m : List (κ × Value)} (hn : (m.map (·.1)).Nodup) {j : Nat} {c : κ} (hj : (m.map (·.1))[j]? = some c) : (m.filter fun p => p.1 ≠ c) = m.eraseIdx j := by
  induction m generalizing j with
  | nil => rfl
  | cons p r ih =>
    simp only [List.map_cons, List.nodup_cons] at hn
    cases j with
    | zero =>
      simp at hj
      subst hj
      rw [List.filter_cons_of_neg (by simp), List.eraseIdx_cons_zero, List.filter_eq_self]
      intro q hq
      simp
      intro e
      exact hn.1 (e ▸ List.mem_map.2 ⟨q, hq, rfl⟩)
    | succ j =>
      simp only [List.map_cons, List.getElem?_cons_succ] at hj
      have hne : p.1 ≠ c := by
        intro e
        apply hn.1
        rw [e]
        exact List.mem_of_getElem? hj
      rw [List.filter_cons_of_pos (by simpa using hne), List.eraseIdx_cons_succ, ih hn.2 hj]

/-- m with a key's value laid. -/
def mPut (m : List (κ × Value)) (c : κ) (x : Value) : List (κ × Value) := if c ∈ m.map (·.1) then m.map fun p => if p.1 = c then (c, x) else p else m ++ [(c, x)]
def mDel (m : List (κ × Value)) (c : κ) : List (κ × Value) := m.filter fun p => p.1 ≠ c
def mGet (m : List (κ × Value)) (c : κ) : Option Value := (m.find? fun p => p.1 = c).map (·.2)

theorem at_key {m : List (κ × Value)} (hn : (m.map (·.1)).Nodup) {j : Nat} {c : κ} (hj : (m.map (·.1))[j]? = some c) : ∃ x, m[j]? = some (c, x) ∧ mGet m c = some x := by
  rw [List.getElem?_map, Option.map_eq_some_iff] at hj
  obtain ⟨⟨d, x⟩, h1, h2⟩ := hj
  simp at h2
  subst h2
  refine ⟨x, h1, ?_⟩
  unfold mGet
  have hmem : (d, x) ∈ m := List.mem_of_getElem? h1
  have : m.find? (fun p => p.1 = d) = some (d, x) := by
    clear h1 j
    induction m with
    | nil => simp at hmem
    | cons p r ih =>
      simp only [List.map_cons, List.nodup_cons] at hn
      rw [List.find?_cons]
      by_cases e : p.1 = d
      · have : (d, x) = p := by
          rcases List.mem_cons.1 hmem with h | h
          · exact h
          · exact absurd (List.mem_map.2 ⟨_, h, rfl⟩) (e ▸ hn.1)
        simp [← this]
      · simp only [decide_eq_false e]
        refine ih hn.2 ?_
        rcases List.mem_cons.1 hmem with h | h
        · exact absurd (congrArg Prod.fst h).symm e
        · exact h
  rw [this]; rfl
theorem mGet_none {m : List (κ × Value)} {c : κ} (h : c ∉ m.map (·.1)) : mGet m c = none := by
  unfold mGet
  rw [List.find?_eq_none.2]
  · rfl
  · intro p hp e
    simp at e
    exact h (List.mem_map.2 ⟨p, hp, e⟩)
theorem mGet_some {m : List (κ × Value)} (hn : (m.map (·.1)).Nodup) {c : κ} {x : Value} (h : (c, x) ∈ m) : mGet m c = some x := by
  obtain ⟨j, hj, e⟩ := List.getElem_of_mem h
  obtain ⟨y, h1, h2⟩ := at_key hn (j := j) (c := c) (by rw [List.getElem?_map, List.getElem?_eq_getElem hj, e]; rfl)
  rw [List.getElem?_eq_getElem hj, e] at h1
  cases h1
  exact h2

section ops
variable {P : Program} {t kt et : TypeId} (K : KeyT P kt kV) (ht : P.underlying t = some (.map kt et))
include K ht

/-- 'x, ok := m[k]' and 'm[k]'. -/
theorem MapIs.lookup (h : MapIs kV w r m) (c : κ) (ok : Bool) {z : Value} (hz : (zeroValue et).run P w = .ok z w) :
    (Instr.lookup t (.map (some r)) (kV c) ok).run P w = .ok (if ok then .tuple #[(mGet m c).getD z, .bool (mGet m c).isSome] else (mGet m c).getD z) w := by
  obtain ⟨hn, es, clock, hb, hk, _⟩ := h
  have hkeys := keys_of hk
  by_cases hc : c ∈ m.map (·.1)
  · obtain ⟨j, hj, h1, h2⟩ := K.hit w c es.toList (m.map (·.1)) hkeys hc
    obtain ⟨x, h3, h4⟩ := at_key hn h1
    have hx : es.toList[j].val = x := by
      have := congrArg (·[j]?) hk
      simp only [List.getElem?_map, h3, List.getElem?_eq_getElem hj] at this
      simp at this
      exact this.2
    rw [h4]
    cases ok <;> simp [Instr.lookup, run_underlying ht, MapKept.run_getObj_map hb, K.check, h2, Result.andThen, hx] <;> exact hx
  · have h2 := K.miss w c es.toList (m.map (·.1)) hkeys hc
    rw [mGet_none hc]
    cases ok <;> simp [Instr.lookup, run_underlying ht, MapKept.run_getObj_map hb, K.check, h2, Result.andThen, hz]

/-- 'm[k] = x'. -/
theorem MapIs.update (h : MapIs kV w r m) (c : κ) (x : Value) :
    ∃ w', (Instr.mapUpdate t (.map (some r)) (kV c) x).run P w = .ok () w' ∧ MapIs kV w' r (mPut m c x) ∧ w.grownBy w' (some r) ∧ w'.heap.size = w.heap.size := by
  obtain ⟨hn, es, clock, hb, hk, hbn, hbl⟩ := h
  have hkeys := keys_of hk
  by_cases hc : c ∈ m.map (·.1)
  · obtain ⟨j, hj, h1, h2⟩ := K.hit w c es.toList (m.map (·.1)) hkeys hc
    obtain ⟨x0, h3, h4⟩ := at_key hn h1
    have hkj : es.toList[j].key = kV c := by
      have := congrArg (·[j]?) hkeys
      simp only [List.getElem?_map, List.getElem?_eq_getElem hj] at this
      rw [List.getElem?_map] at h1
      rw [h1] at this
      simpa using this
    have hkj' : ((es[j]?).map (·.key)).getD (kV c) = kV c := by
      have hjs : j < es.size := by simpa using hj
      rw [Array.getElem?_eq_getElem hjs]
      simpa using hkj
    have hrun : (Instr.mapUpdate t (.map (some r)) (kV c) x).run P w = .ok () (putMap w r (es.modify j fun e => { e with key := kV c, val := x }) clock) := by
      simp [Instr.mapUpdate, run_underlying ht, MapKept.run_getObj_map hb, K.check, h2, Result.andThen, setObj, Sem.run, hb, hkj', Instr.keyThatStays, K.bits, putMap]
    refine ⟨_, hrun, ⟨?_, _, _, putMap_at (lt_of_block hb), ?_, ?_, ?_⟩, grown_putMap _ _ _ _, by simp [putMap]⟩
    · rw [mPut, if_pos hc, List.map_map]
      have : ((fun x => x.1) ∘ fun p : κ × Value => if p.1 = c then (c, x) else p) = fun p => p.1 := by
        funext p; simp only [Function.comp]; split <;> simp_all
      rw [this]; exact hn
    · rw [mPut, if_pos hc, Array.toList_modify]
      apply List.ext_getElem?
      intro i
      have hki := congrArg (·[i]?) hk
      simp only [List.getElem?_map] at hki ⊢
      rw [List.getElem?_modify]
      by_cases e : j = i
      · subst e
        simp only [if_true, h3, List.getElem?_eq_getElem hj]
        simp
      · simp only [if_neg e, Option.map_eq_map, Option.map_id', hki]
        cases hm : m[i]? with
        | none => rfl
        | some p =>
          have hp : p.1 ≠ c := by
            intro ep
            apply e
            have hi1 : (m.map (·.1))[i]? = some c := by rw [List.getElem?_map, hm]; simp [ep]
            have hjl := (List.getElem?_eq_some_iff.1 h1)
            have hil := (List.getElem?_eq_some_iff.1 hi1)
            exact (List.getElem_inj hn).1 (hjl.2.trans hil.2.symm)
          simp [hp]
    · rw [Array.toList_modify, map_modify_same (f := fun e : MapEntry => { e with key := kV c, val := x }) (g := (·.born)) (fun e => rfl)]; exact hbn
    · intro e he
      rw [Array.toList_modify] at he
      obtain ⟨i, hi, e1⟩ := List.getElem_of_mem he
      simp at hi
      rw [List.getElem_modify] at e1
      have hb1 := hbl _ (List.getElem_mem hi)
      split at e1 <;> (rw [← e1]; exact hb1)
  · have h2 := K.miss w c es.toList (m.map (·.1)) hkeys hc
    have hrun : (Instr.mapUpdate t (.map (some r)) (kV c) x).run P w = .ok () (putMap w r (es.push { key := kV c, val := x, born := clock }) (clock + 1)) := by
      simp [Instr.mapUpdate, run_underlying ht, MapKept.run_getObj_map hb, K.check, h2, Result.andThen, setObj, Sem.run, hb, putMap]
    refine ⟨_, hrun, ⟨?_, _, _, putMap_at (lt_of_block hb), ?_, ?_, ?_⟩, grown_putMap _ _ _ _, by simp [putMap]⟩
    · rw [mPut, if_neg hc, List.map_append]
      exact List.nodup_append.2 ⟨hn, by simp, by intro a ha b hb' e; simp at hb'; subst hb'; subst e; exact hc ha⟩
    · rw [mPut, if_neg hc]; simp [hk]
    · rw [Array.toList_push, List.map_append]
      refine List.nodup_append.2 ⟨hbn, by simp, ?_⟩
      intro a ha b hb' e
      simp at hb'
      obtain ⟨y, hy, rfl⟩ := List.mem_map.1 ha
      have := hbl y hy
      omega
    · intro e he
      rw [Array.toList_push] at he
      rcases List.mem_append.1 he with h | h
      · have := hbl e h; omega
      · simp at h; subst h; simp

/-- 'delete(m, k)'. -/
theorem MapIs.delete (h : MapIs kV w r m) (c : κ) (ty : TypeId) :
    ∃ w', (Builtin.delete_ #[t, kt] ty #[.map (some r), kV c]).run P w = .ok (.tuple #[]) w' ∧ MapIs kV w' r (mDel m c) ∧ w.grownBy w' (some r) ∧ w'.heap.size = w.heap.size := by
  obtain ⟨hn, es, clock, hb, hk, hbn, hbl⟩ := h
  have hkeys := keys_of hk
  by_cases hc : c ∈ m.map (·.1)
  · obtain ⟨j, hj, h1, h2⟩ := K.hit w c es.toList (m.map (·.1)) hkeys hc
    obtain ⟨x0, h3, h4⟩ := at_key hn h1
    have hjs : j < es.size := by simpa using hj
    have hrun : (Builtin.delete_ #[t, kt] ty #[.map (some r), kV c]).run P w = .ok (.tuple #[]) (putMap w r (es.eraseIdxIfInBounds j) clock) := by
      simp [Builtin.delete_, run_underlying ht, MapKept.run_getObj_map hb, K.check, h2, Result.andThen, setObj, Sem.run, hb, putMap]
    have he : (es.eraseIdxIfInBounds j).toList = es.toList.eraseIdx j := by simp [Array.eraseIdxIfInBounds, hjs]
    have hdel : mDel m c = m.eraseIdx j := by
      unfold mDel
      exact filter_eraseIdx hn h1
    refine ⟨_, hrun, ⟨?_, _, _, putMap_at (lt_of_block hb), ?_, ?_, ?_⟩, grown_putMap _ _ _ _, by simp [putMap]⟩
    · rw [hdel, ← eraseIdx_map']; exact hn.eraseIdx _
    · rw [he, hdel, ← eraseIdx_map', ← eraseIdx_map', hk]
    · rw [he, ← eraseIdx_map']; exact hbn.eraseIdx _
    · intro e hm
      rw [he] at hm
      exact hbl e (List.mem_of_mem_eraseIdx hm)
  · have h2 := K.miss w c es.toList (m.map (·.1)) hkeys hc
    have hrun : (Builtin.delete_ #[t, kt] ty #[.map (some r), kV c]).run P w = .ok (.tuple #[]) (putMap w r es clock) := by
      simp [Builtin.delete_, run_underlying ht, MapKept.run_getObj_map hb, K.check, h2, Result.andThen, setObj, Sem.run, hb, putMap]
    have hdel : mDel m c = m := by
      unfold mDel
      rw [List.filter_eq_self]
      intro p hp
      simp
      intro e
      exact hc (List.mem_map.2 ⟨p, hp, e⟩)
    exact ⟨_, hrun, ⟨by rw [hdel]; exact hn, _, _, putMap_at (lt_of_block hb), by rw [hdel]; exact hk, hbn, hbl⟩, grown_putMap _ _ _ _, by simp [putMap]⟩
end ops

end
/-- 'len(m)'. -/
theorem MapIs.len {κ : Type} {kV : κ → Value} {w : World} {r : Nat} {m : List (κ × Value)} {P : Program} {t kt et : TypeId} (ht : P.underlying t = some (.map kt et)) (h : MapIs kV w r m) (ty : TypeId) : (Builtin.len_ #[t] ty #[.map (some r)]).run P w = .ok (.int .i64 m.length) w := by
  obtain ⟨hn, es, clock, hb, hk, _⟩ := h
  have : es.size = m.length := by
    have := congrArg List.length hk
    simpa using this
  simp [Builtin.len_, run_underlying ht, MapKept.run_getObj_map hb, Result.andThen, goInt, this]

/-! ### a range over a map whose round leaves the map alone -/
theorem filter_eraseIdx2 {α β : Type} [DecidableEq β] {f : α → β} {l : List α} (hn : (l.map f).Nodup) {j : Nat} {x : α} (hj : l[j]? = some x) : (l.filter fun y => decide (f y ≠ f x)) = l.eraseIdx j := by
  induction l generalizing j with
  | nil => rfl
  | cons p r ih =>
    simp only [List.map_cons, List.nodup_cons] at hn
    cases j with
    | zero =>
      simp at hj
      subst hj
      rw [List.filter_cons_of_neg (by simp), List.eraseIdx_cons_zero, List.filter_eq_self]
      intro q hq
      simp
      intro e
      exact hn.1 (e ▸ List.mem_map.2 ⟨q, hq, rfl⟩)
    | succ j =>
      simp only [List.getElem?_cons_succ] at hj
      have hne : f p ≠ f x := by
        intro e
        apply hn.1
        rw [e]
        exact List.mem_map.2 ⟨x, List.mem_of_getElem? hj, rfl⟩
      rw [List.filter_cons_of_pos (by simpa using hne), List.eraseIdx_cons_succ, ih hn.2 hj]

/-- THE ITERATOR it GOES OVER THE MAP r, WHICH HOLDS m; left IS STILL TO COME. -/
structure Ranging {κ : Type} (kV : κ → Value) (w : World) (r it : Nat) (m left : List (κ × Value)) : Prop where
  nd : (m.map (·.1)).Nodup
  sub : left.Sublist m
  blk : ∃ es clock seen, w.heap[r]? = some (.map es clock) ∧ es.toList.map (fun e => (e.key, e.val)) = m.map (fun p => (kV p.1, p.2)) ∧ (es.toList.map (·.born)).Nodup ∧ (∀ e ∈ es.toList, e.born < clock) ∧
    w.heap[it]? = some (.mapIter (some r) clock seen clock) ∧ (es.toList.filter fun e => !seen.contains e.born).map (fun e => (e.key, e.val)) = left.map (fun p => (kV p.1, p.2))

theorem Ranging.lt {κ : Type} {kV : κ → Value} {w : World} {r it : Nat} {m left : List (κ × Value)} (h : Ranging kV w r it m left) : r < w.heap.size ∧ it < w.heap.size := by
  obtain ⟨_, _, es, clock, seen, h1, _, _, _, h2, _⟩ := h
  exact ⟨lt_of_block h1, lt_of_block h2⟩
theorem Ranging.mapIs {κ : Type} {kV : κ → Value} {w : World} {r it : Nat} {m left : List (κ × Value)} (h : Ranging kV w r it m left) : MapIs kV w r m := by
  obtain ⟨h0, _, es, clock, seen, h1, h2, h3, h4, _⟩ := h
  exact ⟨h0, es, clock, h1, h2, h3, h4⟩
theorem Ranging.keep {κ : Type} {kV : κ → Value} {w w' : World} {r it : Nat} {m left : List (κ × Value)} (h : Ranging kV w r it m left) (hr : w'.heap[r]? = w.heap[r]?) (hi : w'.heap[it]? = w.heap[it]?) : Ranging kV w' r it m left := by
  obtain ⟨h0, hs, es, clock, seen, h1, h2, h3, h4, h5, h6⟩ := h
  exact ⟨h0, hs, es, clock, seen, hr.trans h1, h2, h3, h4, hi.trans h5, h6⟩

theorem MapIs.range {κ : Type} {kV : κ → Value} {w : World} {r : Nat} {m : List (κ × Value)} {P : Program} {t kt et : TypeId} (ht : P.underlying t = some (.map kt et)) (h : MapIs kV w r m) :
    ∃ w', (Instr.range t (.map (some r))).run P w = .ok (.pointer (some ⟨w.heap.size, 0, none⟩)) w' ∧ Ranging kV w' r w.heap.size m m ∧ w.grownBy w' none ∧ w'.heap.size = w.heap.size + 1 := by
  obtain ⟨hn, es, clock, hb, hk, h3, h4⟩ := h
  refine ⟨w.alloc (.mapIter (some r) clock #[] clock), ?_, ⟨hn, List.Sublist.refl _, es, clock, #[], ?_, hk, h3, h4, blk_at rfl, ?_⟩, World.grownBy_alloc _ _ _, by simp⟩
  · simp only [Instr.range, Sem.run_bind, run_underlying ht, MapKept.run_getObj_map hb, Result.andThen, newObj, Sem.run, Sem.run_pure]
    rfl
  · rw [blk_old (lt_of_block hb)]; exact hb
  · rw [← hk]; congr 1; rw [List.filter_eq_self]; simp

/-- The step: nothing is left, or one of those that are left comes. -/
theorem Ranging.next {κ : Type} [DecidableEq κ] {kV : κ → Value} {w : World} {r it : Nat} {m left : List (κ × Value)} {P : Program} (h : Ranging kV w r it m left) (ty : TypeId) :
    (left = [] ∧ (Instr.next (.pointer (some ⟨it, 0, none⟩)) false ty).run P w = .ok (.tuple #[.bool false]) w) ∨
    ∃ p w', p ∈ left ∧ (Instr.next (.pointer (some ⟨it, 0, none⟩)) false ty).run P w = .ok (.tuple #[.bool true, kV p.1, p.2]) w' ∧ Ranging kV w' r it m (left.filter fun q => decide (q.1 ≠ p.1)) ∧ w.grownBy w' (some it) ∧ w'.heap.size = w.heap.size ∧
      (Instr.entry (.pointer (some ⟨it, 0, none⟩))).run P w' = .ok (.tuple #[kV p.1, p.2]) w' := by
  obtain ⟨hn, hs, es, clock, seen, hb, hk, hbn, hbl, hit, hleft⟩ := h
  have hL : (leftOf es seen).toList = es.toList.filter fun e => !seen.contains e.born := by simp [leftOf]
  have hne : it ≠ r := by rintro rfl; rw [hb] at hit; cases hit
  have hsize := congrArg List.length hleft
  simp only [List.length_map] at hsize
  rcases run_next_at (P := P) w ty it r clock clock seen es clock hit hb hbl (Nat.le_refl _) with ⟨h0, hrun⟩ | ⟨e, he, w1, hw1, hrun⟩
  · left
    refine ⟨?_, hrun⟩
    rw [← hL, Array.length_toList, h0] at hsize
    exact List.eq_nil_of_length_eq_zero hsize.symm
  · right
    rw [hL] at he
    obtain ⟨q, hq, eq⟩ := List.getElem_of_mem he
    have hql : q < left.length := by omega
    have hkv := congrArg (·[q]?) hleft
    simp only [List.getElem?_map, List.getElem?_eq_getElem hq, List.getElem?_eq_getElem hql, eq, Option.map_some, Option.some.injEq, Prod.mk.injEq] at hkv
    have hes : e ∈ es.toList := (List.mem_filter.1 he).1
    have hw1h : w1.heap = w.heap := by rcases hw1 with rfl | rfl <;> rfl
    have hlt := lt_of_block hit
    refine ⟨left[q], ChangeMaps.setBlock w1 it (.mapIter (some r) clock (seen.push e.born) clock), List.getElem_mem _, ?_, ⟨hn, (List.filter_sublist).trans hs, es, clock, seen.push e.born, ?_, hk, hbn, hbl, ?_, ?_⟩, ?_, ?_, ?_⟩
    · rw [← hkv.1, ← hkv.2]; exact hrun
    · show (w1.heap.setIfInBounds it _)[r]? = _
      rw [Array.getElem?_setIfInBounds, if_neg hne, hw1h]; exact hb
    · show (w1.heap.setIfInBounds it _)[it]? = _
      rw [hw1h]; simp [hlt]
    · have e1 : (es.toList.filter fun x => !(seen.push e.born).contains x.born) = (es.toList.filter fun x => !seen.contains x.born).filter fun x => decide (x.born ≠ e.born) := by
        rw [List.filter_filter]
        apply List.filter_congr
        intro x _
        rw [Array.contains_push]
        cases seen.contains x.born <;> simp [Bool.beq_eq_decide_eq]
      rw [e1]
      have hsubn : ((es.toList.filter fun x => !seen.contains x.born).map (·.born)).Nodup := hbn.sublist (List.Sublist.map _ List.filter_sublist)
      have hln : (left.map (·.1)).Nodup := hn.sublist (List.Sublist.map _ hs)
      rw [filter_eraseIdx2 (f := fun x : MapEntry => x.born) hsubn (j := q) (x := e) (by rw [List.getElem?_eq_getElem hq, eq]),
        filter_eraseIdx2 (f := fun x : κ × Value => x.1) hln (j := q) (x := left[q]) (List.getElem?_eq_getElem hql), ← eraseIdx_map', ← eraseIdx_map', hleft]
    · refine ⟨by rcases hw1 with rfl | rfl <;> rfl, by rcases hw1 with rfl | rfl <;> rfl, by rcases hw1 with rfl | rfl <;> rfl, by simp [ChangeMaps.setBlock, hw1h], fun k _ hkn => ?_⟩
      show (w1.heap.setIfInBounds it _)[k]? = _
      rw [Array.getElem?_setIfInBounds, if_neg (fun e => hkn (by rw [e])), hw1h]
    · simp [ChangeMaps.setBlock, hw1h]
    · rw [← hkv.1, ← hkv.2]
      refine run_entry_at _ it r clock seen es clock e ?_ ?_ hes hbn
      · show (w1.heap.setIfInBounds it _)[it]? = _
        rw [hw1h]; simp [hlt]
      · show (w1.heap.setIfInBounds it _)[r]? = _
        rw [Array.getElem?_setIfInBounds, if_neg hne, hw1h]; exact hb
/-! ### the laws at the operations -/
section
variable {κ : Type} {kV : κ → Value} {P : Program} {w : World} {ops : Array Oper} {rest : List Oper} {o : Oper} {a : Act} {Q : Exit → Act → World → Prop} {t kt et : TypeId}

theorem wpList_rangeM (hg : o.guard = none) (x : Operand) (hop : o.op = Op.range t x) (ht : P.underlying t = some (.map kt et)) (r : Nat) (m : List (κ × Value)) (hx : a.eval x = .map (some r)) (h : MapIs kV w r m)
    (hK : ∀ w', Ranging kV w' r w.heap.size m m → w.grownBy w' none → w'.heap.size = w.heap.size + 1 → wpList P ops Q rest (a.put o.dst (.pointer (some ⟨w.heap.size, 0, none⟩))) w') : wpList P ops Q (o :: rest) a w := by
  refine wpList_plain hg fun K' hK' => ?_
  obtain ⟨w', hrun, r1, r2, r3⟩ := h.range ht
  unfold Oper.wp
  simp [execOp, hop, hx, hrun, Result.andThen]
  exact hK' _ _ (hK w' r1 r2 r3)

theorem wpList_nextM [DecidableEq κ] (hg : o.guard = none) (x : Operand) (hop : o.op = Op.next x false) (r it : Nat) (m left : List (κ × Value)) (hx : a.eval x = .pointer (some ⟨it, 0, none⟩)) (h : Ranging kV w r it m left)
    (hDone : left = [] → wpList P ops Q rest (a.put o.dst (.tuple #[.bool false])) w)
    (hMore : ∀ p w', p ∈ left → Ranging kV w' r it m (left.filter fun q => decide (q.1 ≠ p.1)) → w.grownBy w' (some it) → w'.heap.size = w.heap.size → (Instr.entry (.pointer (some ⟨it, 0, none⟩))).run P w' = .ok (.tuple #[kV p.1, p.2]) w' → wpList P ops Q rest (a.put o.dst (.tuple #[.bool true, kV p.1, p.2])) w') : wpList P ops Q (o :: rest) a w := by
  refine wpList_plain hg fun K' hK' => ?_
  unfold Oper.wp
  rcases h.next (P := P) o.type with ⟨h0, hrun⟩ | ⟨p, w', hp, hrun, h1, h2, h3, h4⟩
  · simp [execOp, hop, hx, hrun, Result.andThen]
    exact hK' _ _ (hDone h0)
  · simp [execOp, hop, hx, hrun, Result.andThen]
    exact hK' _ _ (hMore p w' hp h1 h2 h3 h4)
end

/-- .. at keys that are cells. -/
theorem wpList_nextC {P : Program} {w : World} {ops : Array Oper} {rest : List Oper} {o : Oper} {a : Act} {Q : Exit → Act → World → Prop} (hg : o.guard = none) (x : Operand) (hop : o.op = Op.next x false) (r it : Nat) (m left : List (Cell × Value)) (hx : a.eval x = .pointer (some ⟨it, 0, none⟩)) (h : Ranging cellV w r it m left)
    (hDone : left = [] → wpList P ops Q rest (a.put o.dst (.tuple #[.bool false])) w)
    (hMore : ∀ (c : Cell) (y : Value) w', (c, y) ∈ left → Ranging cellV w' r it m (left.filter fun q => decide (q.1 ≠ c)) → w.grownBy w' (some it) → w'.heap.size = w.heap.size → (Instr.entry (.pointer (some ⟨it, 0, none⟩))).run P w' = .ok (.tuple #[.agg #[.int .i64 c.v, .string c.k, .int .i64 c.s], y]) w' → wpList P ops Q rest (a.put o.dst (.tuple #[.bool true, .agg #[.int .i64 c.v, .string c.k, .int .i64 c.s], y])) w') : wpList P ops Q (o :: rest) a w :=
  wpList_nextM hg x hop r it m left hx h hDone fun p w' h1 h2 h3 h4 h5 => hMore p.1 p.2 w' h1 h2 h3 h4 h5

theorem erase_perm {α : Type} : ∀ (l : List α) (q : Nat) (h : q < l.length), (l[q] :: l.eraseIdx q).Perm l
  | x :: r, 0, _ => List.Perm.refl _
  | x :: r, q + 1, h => by
    have ih := erase_perm r q (by simpa using h)
    simp only [List.getElem_cons_succ, List.eraseIdx_cons_succ]
    exact (List.Perm.swap _ _ _).trans (ih.cons x)
theorem left_perm {κ : Type} [DecidableEq κ] {left : List (κ × Value)} (hn : (left.map (·.1)).Nodup) {p : κ × Value} (hp : p ∈ left) : (p.1 :: (left.filter fun q => decide (q.1 ≠ p.1)).map (·.1)).Perm (left.map (·.1)) := by
  obtain ⟨q, hq, e⟩ := List.getElem_of_mem hp
  have e1 := filter_eraseIdx2 (f := fun x : κ × Value => x.1) hn (j := q) (x := p) (by rw [List.getElem?_eq_getElem hq, e])
  rw [e1, ← eraseIdx_map']
  have hq' : q < (left.map (·.1)).length := by simpa using hq
  have : p.1 = (left.map (·.1))[q] := by rw [List.getElem_map, e]
  rw [this]
  exact erase_perm _ q hq'

/-! ### keys: cells, numbers -/
theorem findAsking_hit (c : Cell) (w : World) : ∀ (es : List MapEntry) (cs : List Cell) (i : Nat), es.map (·.key) = cs.map cellV → c ∈ cs →
    ∃ (j : Nat) (hj : j < es.length), cs[j]? = some c ∧ (Instr.findAsking 46 (cellV c) es i).run Try.prog w = .ok (some (i + j, es[j].val)) w
  | [], [], i, _, hc => by simp at hc
  | [], d :: cs, i, h, _ => by simp at h
  | e :: es, [], i, h, _ => by simp at h
  | e :: es, d :: cs, i, h, hc => by
    simp only [List.map_cons, List.cons.injEq] at h
    obtain ⟨h1, h2⟩ := h
    by_cases he : c = d
    · subst he
      refine ⟨0, by simp, rfl, ?_⟩
      rw [Instr.findAsking]
      simp only [Sem.run_bind, h1, Op.equal, Op.maxDepth]
      rw [equal_cell 9998]
      simp
    · obtain ⟨j, hj, h3, h4⟩ := findAsking_hit c w es cs (i + 1) h2 (by
        rcases List.mem_cons.1 hc with h | h
        · exact absurd h he
        · exact h)
      refine ⟨j + 1, by simpa using hj, by simpa using h3, ?_⟩
      rw [Instr.findAsking]
      simp only [Sem.run_bind, h1, Op.equal, Op.maxDepth]
      rw [equal_cell 9998]
      have hd : decide ((⟨c.v, c.k, c.s⟩ : Cell) = ⟨d.v, d.k, d.s⟩) = false := decide_eq_false he
      rw [hd]
      simp only [Result.andThen_ok, Bool.false_eq_true, if_false]
      rw [h4]
      simp
      omega
theorem findAsking_miss (c : Cell) (w : World) : ∀ (es : List MapEntry) (cs : List Cell) (i : Nat), es.map (·.key) = cs.map cellV → c ∉ cs →
    (Instr.findAsking 46 (cellV c) es i).run Try.prog w = .ok none w
  | [], _, i, _, _ => rfl
  | e :: es, [], i, h, _ => by simp at h
  | e :: es, d :: cs, i, h, hc => by
    simp only [List.map_cons, List.cons.injEq] at h
    obtain ⟨h1, h2⟩ := h
    have he : ¬ c = d := fun e => hc (by simp [e])
    rw [Instr.findAsking]
    simp only [Sem.run_bind, h1, Op.equal, Op.maxDepth]
    rw [equal_cell 9998]
    have hd : decide ((⟨c.v, c.k, c.s⟩ : Cell) = ⟨d.v, d.k, d.s⟩) = false := decide_eq_false he
    rw [hd]
    simp only [Result.andThen_ok, Bool.false_eq_true, if_false]
    exact findAsking_miss c w es cs (i + 1) h2 (fun h => hc (List.mem_cons_of_mem _ h))
theorem findKey_cell (c : Cell) (w : World) (e : MapEntry) (es : List MapEntry) (d : Cell) (h : e.key = cellV d) : (Instr.findKey 46 (cellV c) (e :: es)).run Try.prog w = (Instr.findAsking 46 (cellV c) (e :: es)).run Try.prog w := by
  simp [Instr.findKey, run_underlying Try.underlying46, Instr.findNow, h, Instr.sameNow]
theorem keyCell : KeyT Try.prog 46 cellV where
  check b c w := checkKey_cell b c.v c.k c.s w
  bits c := by
    show (decide ((#[Value.int .i64 c.v, .string c.k, .int .i64 c.s] : Array Value).size = _) && _) = true
    simp [Instr.sameBits, beq_toListBytes]
  hit w c es cs h hc := by
    cases es with
    | nil => cases cs <;> simp at h hc
    | cons e es =>
      cases cs with
      | nil => simp at h
      | cons d cs =>
        obtain ⟨j, hj, h1, h2⟩ := findAsking_hit c w (e :: es) (d :: cs) 0 h hc
        simp only [List.map_cons, List.cons.injEq] at h
        exact ⟨j, hj, h1, by rw [findKey_cell c w e es d h.1, h2, Nat.zero_add]⟩
  miss w c es cs h hc := by
    cases es with
    | nil => simp [Instr.findKey, run_underlying Try.underlying46, Instr.findNow]
    | cons e es =>
      cases cs with
      | nil => simp at h
      | cons d cs =>
        have h2 := findAsking_miss c w (e :: es) (d :: cs) 0 h hc
        simp only [List.map_cons, List.cons.injEq] at h
        rw [findKey_cell c w e es d h.1, h2]
end Go.Proofs.Ytaicecnfodhlcaa
