/- How the laws' arguments lie: slices of views and of steps; the row's last step where nothing that lay there has turned. -/
import Derived.Test.YtheimbhnckaonaaPlays
import Derived.Test.YtheimbhnckaonaaRows
import Derived.WalkKit
import Derived.ProofKit
import Derived.OpenShut
import Derived.JoinedCond
import Derived.Below
import Derived.Carry
import Derived.ChangeOld
import Derived.ChangeSame
import Derived.Deep.Slices
import Derived.Deep.Fields
set_option linter.unusedVariables false
set_option linter.unusedSimpArgs false
namespace Go.Proofs.Ytheimbhnckaonaa
open Go.RowKit Go.ChangeShapes Go.WideShapes Go.WideElems Go.Deep

namespace bulks
theorem one_le {H : Type} (d : DataW H) : 1 ≤ Rows.uptoBulk d := by
  cases d with
  | lit l => cases l <;> simp [Rows.uptoBulk]
  | nil => simp [Rows.uptoBulk]
  | ptr d => simp [Rows.uptoBulk]
  | slice elems spare => simp [Rows.uptoBulk]
  | agg parts => simp [Rows.uptoBulk]
  | iface t d => simp [Rows.uptoBulk]
  | map entries => simp [Rows.uptoBulk]
  | held h => simp [Rows.uptoBulk]
theorem length_le {H : Type} (l : List (DataW H)) : l.length ≤ Rows.uptoBulkAll l := by
  induction l with
  | nil => simp [Rows.uptoBulkAll]
  | cons x r ih => have := one_le x; simp only [Rows.uptoBulkAll, List.length_cons]; omega
theorem slice_le {H : Type} (elems spare : List (DataW H)) : elems.length + spare.length + 1 ≤ Rows.uptoBulk (.slice elems spare) := by
  have h1 := length_le elems
  have h2 := length_le spare
  simp only [Rows.uptoBulk]
  omega
theorem bound {H : Type} {l : List (DataW H)} (hk : Rows.uptoSmall H l = true) : Rows.uptoBulkAll l ≤ 1048576 := of_decide_eq_true hk
end bulks

section
variable {H : Type} {enc : TypeId × Value → H} {w : World} {base : Nat} {spare : Nat → Bool} {held : Bool}

theorem cell_spot {W : World} {a : Addr} {v : Value} (h : W.cell? a = some v) : a.spot = none ∧ a.block < W.heap.size := by
  unfold World.cell? at h
  cases hb : W.heap[a.block]? with
  | none => rw [hb] at h; cases h
  | some o =>
    rw [hb] at h
    refine ⟨?_, (Array.getElem?_eq_some_iff.1 hb).1⟩
    cases o <;> simp at h
    cases hs : a.spot with
    | none => rfl
    | some x => rw [hs] at h; simp at h

/-- Elements of so many one-cell fields each, read off memory. -/
theorem open_slice_fields {P : Program} {t e : TypeId} {fs : Array Field} {fuel : Nat} {cs : List Value} {x : DataW H × List MemPlace} (ht : P.underlying t = some (.slice e)) (he : P.underlying e = some (.struct fs))
    (hone : oneCellFields P fs = true) (hC : P.cellsOf e = fs.size) (h : DataW.trod enc P w base spare held fuel t cs = some x) :
    (cs = [.slice none 0 0] ∧ x.1 = .nil) ∨
    ∃ (a : Addr) (len cap m : Nat) (D : Nat → DataW H), cs = [.slice (some a) len cap] ∧ len ≤ cap ∧ cap ≤ maxLen ∧ len ≤ m ∧
      x.1 = (.slice ((List.range len).map D) ((List.range (m - len)).map fun j => D (len + j))) ∧
      ∀ i, i < len → ∃ (ys : List (DataW H × List MemPlace)) (n : Nat), D i = .agg (ys.map (·.1)) ∧ ys.length = fs.size ∧
        ∀ (j : Nat) (f : Field), fs[j]? = some f → ∃ (v : Value) (y : DataW H × List MemPlace), w.cell? (a.add (i * fs.size + j)) = some v ∧ ys[j]? = some y ∧ DataW.trod enc P w base spare held n f.type [v] = some y := by
  rcases open_slice ht h with ⟨h0, h1⟩ | ⟨a, len, cap, m, n, D, Pl, hcs, hb, hl, hm, hmm, hx, hi⟩
  · exact .inl ⟨h0, by rw [h1]⟩
  · have hlm : len ≤ m := by rw [hmm]; split <;> omega
    refine .inr ⟨a, len, cap, m, D, hcs, hl, hm, hlm, by rw [hx], fun i him => ?_⟩
    obtain ⟨cs', hc, ht'⟩ := hi i (by omega)
    rw [hC] at hc
    obtain ⟨ys, n', hn', hy, hlen, hyl, hf⟩ := DataW.trod_struct he ht'
    obtain ⟨_, hcl, hat⟩ := World.cells?_some hc
    simp only [Prod.mk.injEq] at hy
    refine ⟨ys, n', hy.1, hyl, fun j f hj => ?_⟩
    obtain ⟨ho, hk⟩ := hone_of hone j f hj
    have hjl : j < fs.size := (Array.getElem?_eq_some_iff.1 hj).1
    have hcell := hat j hjl
    have hv : cs'[j]? = some (cs'[j]'(by omega)) := List.getElem?_eq_getElem (by omega)
    have h1 := hf j f hj
    rw [ho, hk] at h1
    have hone' : (cs'.drop j).take 1 = [cs'[j]'(by omega)] := by
      rw [List.drop_eq_getElem_cons (by omega)]
      rfl
    rw [hone'] at h1
    have hys : ys[j]? = some (ys[j]'(by omega)) := List.getElem?_eq_getElem (by omega)
    refine ⟨_, _, ?_, hys, h1.trans hys⟩
    rw [← Go.Deep.add_add, hcell, hv]

theorem list_of {α : Type} (n : Nat) (p : Nat → α → Prop) (h : ∀ i, i < n → ∃ a, p i a) : ∃ l : List α, l.length = n ∧ ∀ i (hi : i < l.length), p i l[i] := by
  induction n with
  | zero => exact ⟨[], rfl, fun i hi => absurd hi (Nat.not_lt_zero _)⟩
  | succ n ih =>
    obtain ⟨l, hl, hp⟩ := ih (fun i hi => h i (by omega))
    obtain ⟨a, ha⟩ := h n (by omega)
    refine ⟨l ++ [a], by simp [hl], fun i hi => ?_⟩
    by_cases e : i < l.length
    · rw [List.getElem_append_left e]
      exact hp i e
    · have e2 : i = l.length := by simp at hi; omega
      subst e2
      rw [List.getElem_append_right (Nat.le_refl _)]
      simp only [Nat.sub_self, List.getElem_cons_zero]
      rw [hl]
      exact ha

theorem sl_of {α : Type} {sz : Nat} {en : α → List Value} {a : Addr} {l : List α} (hsz : ∀ x, 0 < (en x).length) (h : ∀ i (hi : i < l.length), ∀ j u, (en l[i])[j]? = some u → w.cell? (a.add (i * sz + j)) = some u) :
    Sl sz en w (some a) l ∧ (l ≠ [] → Under w.heap.size (some a)) := by
  have hk : l ≠ [] → a.spot = none ∧ a.block < w.heap.size := fun hne => by
    have h0 : 0 < l.length := List.length_pos_iff.2 hne
    have := cell_spot (h 0 h0 0 _ (List.getElem?_eq_getElem (hsz _)))
    have e : a.add (0 * sz + 0) = a := by simp [Addr.add]
    rw [e] at this
    exact this
  refine ⟨fun i hi => ?_, fun hne g off sp e => ?_⟩
  · obtain ⟨k1, k2⟩ := hk (fun e => by rw [e] at hi; exact absurd hi (Nat.not_lt_zero _))
    obtain ⟨b, off, spt⟩ := a
    cases k1
    refine ⟨b, off, rfl, k2, fun j u hu => ?_⟩
    have := h i hi j u hu
    have e : (⟨b, off, none⟩ : Addr).add (i * sz + j) = ⟨b, off + i * sz + j, none⟩ := by
      unfold Addr.add
      split
      · simp_all
      · simp [Nat.add_assoc]
    rw [e] at this
    exact this
  · cases e
    exact (hk hne).2

theorem views_of {fuel : Nat} {cs : List Value} {x : DataW H × List MemPlace} (h : DataW.trod enc Try.prog w base spare held fuel 23 cs = some x) :
    ∃ (A : Option Addr) (cap : Nat) (vs : List View), cs = [.slice A vs.length cap] ∧ Sl 3 viewL w A vs ∧ (vs ≠ [] → Under w.heap.size A) ∧ vs.length ≤ cap ∧ cap ≤ maxLen ∧ vs.length ≤ Rows.uptoBulk x.1 := by
  rcases open_slice_fields Try.underlying23 Try.underlying49 (by kernel_rfl) (by kernel_rfl) h with ⟨rfl, _⟩ | ⟨a, len, cap, m, D, rfl, hl, hm, hlm, hx, hi⟩
  · exact ⟨none, 0, [], rfl, Sl.nil _ _ _ _, fun h => absurd rfl h, Nat.le_refl _, Nat.zero_le _, Nat.zero_le _⟩
  · obtain ⟨l, rfl, hp⟩ := list_of len (fun i (v : View) => ∀ j u, (viewL v)[j]? = some u → w.cell? (a.add (i * 3 + j)) = some u) (fun i him => by
      obtain ⟨ys, n, _, _, hf⟩ := hi i him
      obtain ⟨v0, y0, c0, _, t0⟩ := hf 0 _ rfl
      obtain ⟨v1, y1, c1, _, t1⟩ := hf 1 _ rfl
      obtain ⟨v2, y2, c2, _, t2⟩ := hf 2 _ rfl
      obtain ⟨n0, e0, _, _⟩ := DataW.trod_int Try.underlying2 t0
      obtain ⟨n1, e1, _, _⟩ := DataW.trod_int Try.underlying2 t1
      obtain ⟨n2, e2, _, _⟩ := DataW.trod_int Try.underlying2 t2
      cases e0; cases e1; cases e2
      refine ⟨⟨n0, n1, n2⟩, fun j u hu => ?_⟩
      match j, hu with
      | 0, hu => cases hu; exact c0
      | 1, hu => cases hu; exact c1
      | 2, hu => cases hu; exact c2
      | j + 3, hu => cases hu)
    have hs := sl_of (w := w) (en := viewL) (a := a) (l := l) (fun _ => by simp) hp
    exact ⟨some a, cap, l, rfl, hs.1, hs.2, hl, hm, by rw [hx]; have := bulks.slice_le ((List.range l.length).map D) ((List.range (m - l.length)).map fun j => D (l.length + j)); simp at this ⊢; omega⟩

theorem cells_of {fuel : Nat} {cs : List Value} {x : DataW H × List MemPlace} (h : DataW.trod enc Try.prog w base spare held fuel 35 cs = some x) :
    ∃ (A : Option Addr) (cap : Nat) (vs : List Cell), cs = [.slice A vs.length cap] ∧ Sl 3 cellL w A vs ∧ (vs ≠ [] → Under w.heap.size A) ∧ vs.length ≤ cap ∧ cap ≤ maxLen := by
  rcases open_slice_fields Try.underlying35 Try.underlying51 (by kernel_rfl) (by kernel_rfl) h with ⟨rfl, _⟩ | ⟨a, len, cap, m, D, rfl, hl, hm, hlm, hx, hi⟩
  · exact ⟨none, 0, [], rfl, Sl.nil _ _ _ _, fun h => absurd rfl h, Nat.le_refl _, Nat.zero_le _⟩
  · obtain ⟨l, rfl, hp⟩ := list_of len (fun i (v : Cell) => ∀ j u, (cellL v)[j]? = some u → w.cell? (a.add (i * 3 + j)) = some u) (fun i him => by
      obtain ⟨ys, n, _, _, hf⟩ := hi i him
      obtain ⟨v0, y0, c0, _, t0⟩ := hf 0 _ rfl
      obtain ⟨v1, y1, c1, _, t1⟩ := hf 1 _ rfl
      obtain ⟨v2, y2, c2, _, t2⟩ := hf 2 _ rfl
      obtain ⟨n0, e0, _, _⟩ := DataW.trod_int Try.underlying3 t0
      obtain ⟨n1, e1, _, _⟩ := DataW.trod_string Try.underlying9 t1
      obtain ⟨n2, e2, _, _⟩ := DataW.trod_int Try.underlying2 t2
      cases e0; cases e1; cases e2
      refine ⟨⟨n0, n1, n2⟩, fun j u hu => ?_⟩
      match j, hu with
      | 0, hu => cases hu; exact c0
      | 1, hu => cases hu; exact c1
      | 2, hu => cases hu; exact c2
      | j + 3, hu => cases hu)
    have hs := sl_of (w := w) (en := cellL) (a := a) (l := l) (fun _ => by simp) hp
    exact ⟨some a, cap, l, rfl, hs.1, hs.2, hl, hm⟩

theorem steps_of {fuel : Nat} {cs : List Value} {x : DataW H × List MemPlace} (h : DataW.trod enc Try.prog w base spare held fuel 24 cs = some x) :
    ∃ (A : Option Addr) (cap : Nat) (vs : List St), cs = [.slice A vs.length cap] ∧ Sl 6 stL w A vs ∧ (vs ≠ [] → Under w.heap.size A) ∧ (∀ s ∈ vs, StOk w s) ∧ vs.length ≤ cap ∧ cap ≤ maxLen ∧ vs.length ≤ Rows.uptoBulk x.1 := by
  rcases open_slice_fields Try.underlying24 Try.underlying37 (by kernel_rfl) (by kernel_rfl) h with ⟨rfl, _⟩ | ⟨a, len, cap, m, D, rfl, hl, hm, hlm, hx, hi⟩
  · exact ⟨none, 0, [], rfl, Sl.nil _ _ _ _, fun h => absurd rfl h, fun _ h => absurd h (List.not_mem_nil), Nat.le_refl _, Nat.zero_le _, Nat.zero_le _⟩
  · obtain ⟨l, rfl, hp⟩ := list_of len (fun i (v : St) => (∀ j u, (stL v)[j]? = some u → w.cell? (a.add (i * 6 + j)) = some u) ∧ StOk w v) (fun i him => by
      obtain ⟨ys, n, _, _, hf⟩ := hi i him
      obtain ⟨v0, y0, c0, _, t0⟩ := hf 0 _ rfl
      obtain ⟨v1, y1, c1, _, t1⟩ := hf 1 _ rfl
      obtain ⟨v2, y2, c2, _, t2⟩ := hf 2 _ rfl
      obtain ⟨v3, y3, c3, _, t3⟩ := hf 3 _ rfl
      obtain ⟨v4, y4, c4, _, t4⟩ := hf 4 _ rfl
      obtain ⟨v5, y5, c5, _, t5⟩ := hf 5 _ rfl
      obtain ⟨n0, e0, _, _⟩ := DataW.trod_int Try.underlying3 t0
      obtain ⟨n1, e1, _, _⟩ := DataW.trod_int Try.underlying3 t1
      obtain ⟨n2, e2, _, _⟩ := DataW.trod_string Try.underlying9 t2
      obtain ⟨n3, e3, _, _⟩ := DataW.trod_int Try.underlying2 t3
      obtain ⟨n4, e4, _, _⟩ := DataW.trod_int Try.underlying2 t4
      obtain ⟨A5, cap5, l5, e5, s5, u5, k5, _⟩ := cells_of t5
      cases e0; cases e1; cases e2; cases e3; cases e4; cases e5
      refine ⟨⟨n0, n1, n2, n3, n4, A5, cap5, l5⟩, fun j u hu => ?_, s5, u5, k5⟩
      match j, hu with
      | 0, hu => cases hu; exact c0
      | 1, hu => cases hu; exact c1
      | 2, hu => cases hu; exact c2
      | 3, hu => cases hu; exact c3
      | 4, hu => cases hu; exact c4
      | 5, hu => cases hu; exact c5
      | j + 6, hu => cases hu)
    have hs := sl_of (w := w) (en := stL) (a := a) (l := l) (fun _ => by simp [stL]) (fun i hi => (hp i hi).1)
    refine ⟨some a, cap, l, rfl, hs.1, hs.2, fun s hs => ?_, hl, hm, by rw [hx]; have := bulks.slice_le ((List.range l.length).map D) ((List.range (m - l.length)).map fun j => D (l.length + j)); simp at this ⊢; omega⟩
    obtain ⟨i, hi, rfl⟩ := List.getElem_of_mem hs
    exact (hp i hi).2
end

theorem has_lt {P : Program} {W : World} {r : Reach} {b0 : Nat} {t e : TypeId} {A : Option Addr} {len cap : Nat} (ht : P.underlying t = some (.slice e)) (h : Value.okWide P W r b0 t (.slice A len cap)) : Under W.heap.size A := by
  intro g off sp hA
  subst hA
  simp only [Value.okWide, ht, Cell.okWide, Cell.ok] at h
  obtain ⟨_, _, _, _, row, cells, hsh, _⟩ := h
  unfold World.shape? at hsh
  cases hb : W.heap[g]? with
  | none => simp only [hb] at hsh; cases hsh
  | some o => exact (Array.getElem?_eq_some_iff.1 hb).1

/-- Arguments read as they did where nothing below the old size has turned. -/
theorem stays_all {H : Type} {enc : TypeId × Value → H} {P : Program} (hl : laidOutB P = true) {W W' : World} (hb : Below W.heap.size W W') {sp' : Nat → Bool} :
    ∀ {ts : List TypeId} {vs : List Value} {ds : List (DataW H)} {ps : List MemPlace}, (ts.all fun t => P.readableRec t && decide (t < P.types.size)) = true → DataW.TrodAll enc P W 0 (fun _ => true) true ts vs ds ps → (∀ p ∈ ps, sp' p.block = true) →
      DataW.TrodAll enc P W' 0 sp' true ts vs ds ps
  | [], [], [], _, _, h, _ => h
  | t :: ts, v :: vs, d :: ds, ps, hv, h, hs => by
    have hlt := h.lt
    obtain ⟨p, q, ⟨n, h1⟩, h2, e⟩ := h
    simp only [List.all_cons, Bool.and_eq_true, decide_eq_true_eq] at hv
    exact ⟨p, q, ⟨n, DataW.trod_stays (kids_book hl hv.1.1) (book_sized hv.1.1) (fun h => by cases h) ⟨hv.1.2, book_self t⟩ h1 (fun x hx => hb.same (hlt x (by rw [e]; exact List.mem_append_left _ hx))) (fun x hx => hs x (by rw [e]; exact List.mem_append_left _ hx))⟩,
      stays_all hl hb hv.2 h2 (fun x hx => hs x (by rw [e]; exact List.mem_append_right _ hx)), e⟩
/-- THE ROW's LAST STEP: a law of plain data (no variables) that answered true; nothing that lay there when the call began has turned. -/
theorem post_true {H : Type} {enc : TypeId × Value → H} {f : Func} {s : ChangeSpec} {apart : Bool} {W W' : World} {args : Array Value} {ds gs : List (DataW H)} {before : List MemPlace}
    (hW : DataW.Whole enc Try.prog f.params.toList s.vars apart W args.toList ds gs before) (hvs : s.vars = []) (hr : f.resultTypes = #[4])
    (hfn : s.fn H ds = { results := [.lit (.bool true)], args := ds }) (hts : (f.params.toList.all fun t => Try.prog.readableRec t && decide (t < Try.prog.types.size)) = true) (hl : laidOutB Try.prog = true)
    (hb : Below W.heap.size W W') : s.post enc Try.prog f apart true false false W args (.bool true) W' := by
  have hW' := hW
  have hlt : ∀ p ∈ before, p.block < W.heap.size := fun p hp => hW.lt p hp
  obtain ⟨pa, pv, hA, hV, hps, hz, hn⟩ := hW
  rw [hvs] at hV
  obtain ⟨rfl, rfl⟩ := trodVars_none hV
  have hA0 : DataW.TrodAll enc Try.prog W 0 (fun _ => true) true f.params.toList args.toList ds pa := hA
  have hps' : before = pa := by rw [hps, List.append_nil]
  have hspec : s.fn H (ds ++ []) = { results := [.lit (.bool true)], args := ds } := by rw [List.append_nil]; exact hfn
  have hsp : ∀ sp : Nat → Bool, (∀ p ∈ before, sp p.block = true) → DataW.TrodAll enc Try.prog W' 0 sp true f.params.toList args.toList ds pa := fun sp hs => stays_all hl hb hts hA0 (fun p hp => hs p (by rw [hps']; exact hp))
  have hold : ∀ p ∈ before, (fun b => decide (b < W.heap.size)) p.block = true := fun p hp => by simpa using hlt p hp
  have hvv : ∀ sp, DataW.TrodVars enc Try.prog W' sp s.vars ([] : List (DataW H)) [] := fun sp => by rw [hvs]; exact rfl
  have hres : ∀ (b : Nat) (sp : Nat → Bool) (hd : Bool), DataW.TrodAll enc Try.prog W' b sp hd f.resultTypes.toList ((Value.bool true).resultList f.resultTypes.size) (s.fn H (ds ++ [])).results [] := fun b sp hd => by
    rw [hspec, hr]
    exact trodAll_cons_mk (shut_bool Try.underlying4 _) trodAll_mk0
  refine ⟨ds, [], before, [], pa, [], hW', hres _ _ _, by rw [hspec]; exact hsp _ hold, by rw [hspec]; exact hvv _, World.keptBut_mono (fun p hp => ⟨hp, Or.inr (Or.inl (by rw [← hps']; exact hp))⟩) (hb.frame (· ∈ before)), fun h => by cases h⟩
end Go.Proofs.Ytheimbhnckaonaa
