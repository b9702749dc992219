/- The contract of the document's Mark. -/
import Derived.Test.YtheimbhnckaonaaRefW
import Derived.Maps.AppendAt
set_option linter.unusedVariables false
set_option linter.unusedSimpArgs false
namespace Go.Proofs.Ytheimbhnckaonaa
open Go.RowKit

/-- append of one element: where the row lies then. -/
theorem wpList_appAt {α : Type} {P : Program} {ops : Array Oper} {Q : Exit → Act → World → Prop} {a : Act} {w : World} {rest : List Oper} {o : Oper} {t e sz bytes : Nat} (K : SlT P t e sz bytes)
    (hgd : o.guard = none) (s x : Operand) (ho : o.op = .call { callee := .builtin .append, args := #[s, x], argTypes := #[t, t] })
    (enc : α → List Value) (hz : ∀ x, (enc x).length = sz) (h1 : Cells1 enc) (B : Nat) (v : Value) (xs : List α) (hs : a.eval s = v) (hown : Own e sz enc B w v xs)
    (A : Option Addr) (c : Nat) (y : α) (hx : a.eval x = .slice A 1 c) (hsl : Sl sz enc w A [y]) (hmax : xs.length + 1 ≤ 1000000000) (hby : bytes ≤ 1024) (hB : B ≤ w.heap.size)
    (h : ∀ v' w', Own e sz enc B w' v' (xs ++ [y]) → w.grownBy w' v.ownBlock → (v'.ownBlock = v.ownBlock ∨ v'.ownBlock = some w.heap.size) → wpList P ops Q rest (a.put o.dst v') w') : wpList P ops Q (o :: rest) a w := by
  obtain ⟨ht, hsz, i, z, hi, hz0, hsize, hbytes, hzs⟩ := K
  have hb : (xs.length + 1) * bytes ≤ 140737488355328 := Nat.le_trans (Nat.mul_le_mul hmax hby) (by omega)
  have hm : xs.length + 1 ≤ maxLen := by unfold maxLen; omega
  obtain ⟨b, off, e1, _, _⟩ := hsl 0 (by simp)
  cases e1
  refine wpList_append_own_at w hgd s x t ho B e i z sz bytes ht hi hz0 hsize hbytes hzs hsz v xs.length (xs.flatMap enc) hs hown ⟨b, off, none⟩ 1 c ([y].flatMap enc) hx (flat_length hz [y]) (hsl.flat hz) (fun u hu => by obtain ⟨y, _, hy⟩ := List.mem_flatMap.1 hu; exact h1 y u hy) hm hb hB ?_
  intro v' w' h2 h3 _ h5
  refine h v' w' ?_ h3 h5
  unfold Own; simpa using h2

theorem flat_set1 : ∀ (xs : List Int) (k : Nat) (t : Int), (xs.flatMap i64L).set k (.int .i64 t) = (xs.set k t).flatMap i64L
  | [], _, _ => rfl
  | y :: r, 0, _ => rfl
  | y :: r, k + 1, t => by
    rw [List.flatMap_cons, List.set_cons_succ, List.flatMap_cons, ← flat_set1 r k t]
    rfl

/-- The document's operator with a mark set. -/
theorem IsRef.set {w : World} {b : RefB} {O : Op14} (h : IsRef w b O) (k : Nat) (t : Int) : IsRef (w.setCell ⟨b.rl, k, none⟩ (.int .i64 t)) b { O with ms := O.ms.set k t } := by
  obtain ⟨l, hl, ho⟩ := h.obj
  have hne : b.rl ≠ b.rp := h.marks.neObj hl (by decide) rfl
  have hk : ∀ {α : Type} {E sz B : Nat} {enc : α → List Value} {v : Value} {xs : List α}, Own E sz enc B w v xs → E ≠ 2 → Own E sz enc B (w.setCell ⟨b.rl, k, none⟩ (.int .i64 t)) v xs := by
    intro α E sz B enc v xs ho hE
    exact ho.keep fun g hg _ => Below.heap_setCell _ _ _ _ (fun e => by subst e; exact ho.neE h.marks hE hg rfl)
  refine ⟨⟨l, ?_, hk ho (by decide)⟩, ?_, hk h.views (by decide), h.vlo, h.vhi, h.vok, ?_, ?_, h.rise, h.may, fun g hg => by simpa using h.flt g hg, fun cs t f l2 e => h.free cs t f l2 (by rw [Below.heap_setCell _ _ _ _ (fun e => hne e.symm)] at e; exact e)⟩
  · rw [Below.heap_setCell _ _ _ _ (fun e => hne e.symm), List.length_set]; exact hl
  · have h1 := (World.ownsRow.stored h.marks k (.int .i64 t)).1
    rw [flat_set1] at h1
    unfold Own
    simp only [List.length_set]
    exact h1
  · simp only [List.length_set]; exact h.mlo
  · simp only [List.length_set]; exact h.mhi

theorem refMark_src (b : RefB) (O : Op14) (s t : Int) (w : World) (h : IsRef w b O) (hs : s < 0 ∨ O.ms.length ≤ s) :
    Calls Try.prog 36 #[.pointer (some ⟨b.rp, 0, none⟩), .int .i64 s, .int .i64 t] w fun e w' => e = .returned (.tuple #[.slice none 0 0, .int .i64 1]) ∧ w = w' := by
  obtain ⟨av, vcap, la, lcap, _, _, _, _, _, _, _, c0, c1, c2⟩ := h.sl
  clear h
  rcases Int.lt_or_le s 0 with h0 | h0
  · clear hs
    go_enter Try.func36, Try.ntmps36
    go_wp2_with fail
    go_ret2
    exact ⟨rfl, rfl⟩
  · have h1 : (O.ms.length : Int) ≤ s := by omega
    clear hs
    go_enter Try.func36, Try.ntmps36
    go_wp2_with fail
    go_ret2
    exact ⟨rfl, rfl⟩
theorem refMark_time (b : RefB) (O : Op14) (s t : Int) (w : World) (h : IsRef w b O) (hs : 0 ≤ s) (hs2 : s < O.ms.length) (ht : t < -1152921504606846976 ∨ 1152921504606846976 < t) :
    Calls Try.prog 36 #[.pointer (some ⟨b.rp, 0, none⟩), .int .i64 s, .int .i64 t] w fun e w' => e = .returned (.tuple #[.slice none 0 0, .int .i64 22]) ∧ w = w' := by
  obtain ⟨av, vcap, la, lcap, _, _, _, _, _, _, _, c0, c1, c2⟩ := h.sl
  clear h
  rcases ht with h0 | h0
  · go_enter Try.func36, Try.ntmps36
    go_wp2_with fail
    go_ret2
    exact ⟨rfl, rfl⟩
  · have h1 : ¬ t < -1152921504606846976 := by omega
    go_enter Try.func36, Try.ntmps36
    go_wp2_with fail
    go_ret2
    exact ⟨rfl, rfl⟩
/-- The loop of the document's Mark. -/
def refMarkLoop : Unit := ()

set_option maxRecDepth 100000 in
set_option maxHeartbeats 8000000 in
theorem refMark_ok (b : RefB) (O : Op14) (s t : Int) (w : World) (h : IsRef w b O) (hs : 0 ≤ s) (hs2 : s < O.ms.length) (ht : -1152921504606846976 ≤ t) (ht2 : t ≤ 1152921504606846976) (hmax : O.live.length ≤ 100000000) :
    Calls Try.prog 36 #[.pointer (some ⟨b.rp, 0, none⟩), .int .i64 s, .int .i64 t] w fun e w' => ∃ v, e = .returned (.tuple #[v, .int .i64 0]) ∧ Own 51 3 cellL w.heap.size w' v ((O.marked s t).live.filter (shutC (O.marked s t))) ∧ IsRef w' b { O.marked s t with live := (O.marked s t).live.filter fun c => !shutC (O.marked s t) c } ∧ Chg [b.rp, b.rl] w w' := by
  obtain ⟨k, rfl⟩ := Int.eq_ofNat_of_zero_le hs
  have hk : k < O.ms.length := by omega
  obtain ⟨av, vcap, la, lcap, _, _, _, hls, hms, hmc, hlc, c0, c1, c2⟩ := h.sl
  obtain ⟨b', off, e, hrl, hck⟩ := hms.at_i64 hk
  cases e
  rw [Nat.zero_add] at hck
  have fzm : w.frozen? ⟨b.rl, k, none⟩ = false := h.marks.frozen k
  have hltr := h.lt.1
  have hrise := h.rise
  have hmay := h.may
  have HF := Lib.hid h.flt
  have hset := h.set k t
  have hl : (O.marked k t).live = O.live := rfl
  have hv : (O.marked k t).vs = O.vs := rfl
  have hms0 : (O.marked k t).ms = O.ms.set k (max O.ms[k] t) := by
    unfold Op14.marked
    simp [hk]
  have hA : O.ms[k] < t → IsRef (w.setCell ⟨b.rl, k, none⟩ (.int .i64 t)) b (O.marked k t) := by
    intro hg
    have e1 : O.marked k t = { O with ms := O.ms.set k t } := by
      have : (O.marked k t).ms = O.ms.set k t := by rw [hms0, Int.max_eq_right (by omega)]
      show ({ O with ms := (O.marked k t).ms } : Op14) = _
      rw [this]
    rw [e1]; exact hset
  have hB : ¬ O.ms[k] < t → IsRef w b (O.marked k t) := by
    intro hg
    have e1 : O.marked k t = O := by
      have : (O.marked k t).ms = O.ms := by rw [hms0, Int.max_eq_left (by omega), List.set_getElem_self]
      show ({ O with ms := (O.marked k t).ms } : Op14) = _
      rw [this]
    rw [e1]; exact h
  have HA := Lib.hid hA
  have HB := Lib.hid hB
  rw [← hl] at hls c2 hmax hlc hrise hmay
  rw [← hv] at hmay
  clear h hset hA hB hms0 hs hs2 hms hl hv
  generalize hmk : O.ms[k] = m at *
  generalize hO1 : O.marked k t = O1 at *
  by_cases hgt : m < t
  · have hne2 : b.rp ≠ b.rl := by
      rintro e
      obtain ⟨l, hl0, _⟩ := (HA.out hgt).obj
      exact (HA.out hgt).marks.neObj hl0 (by decide) rfl e.symm
    have Href1 := Lib.hid (HA.out hgt)
    have Hch1 := Lib.hid (Chg.set w (a := ⟨b.rl, k, none⟩) (l := [b.rl]) (by show b.rl ∈ [b.rl]; simp) (.int .i64 t))
    go_enter Try.func36, Try.ntmps36
    go_wp2_with fail
    generalize w.setCell ⟨b.rl, k, none⟩ (.int .i64 t) = w1 at *
    obtain ⟨av', vcap', la', lcap', _, _, _, hls', _, _, hlc', _, _, c2'⟩ := Href1.out.sl
    have Hls := Lib.hid hls'
    have C2 := Lib.hid c2'
    have hltr := Href1.out.lt.1
    clear hls' c2' c0 c1 c2 hck fzm HA HB hls hmk
    generalize hLL : O1.live = L at *
    have HLL := Lib.hid hLL
    clear hLL
    go_loopg [8, 9, 10] L.length (fun g v8 v9 i wr => ∃ j : Nat, j + g = L.length ∧ i = .int .i64 j ∧ Own 51 3 cellL w1.heap.size wr v8 ((L.take j).filter (shutC O1)) ∧ Own 51 3 cellL w1.heap.size wr v9 ((L.take j).filter fun c => !shutC O1 c) ∧ (∀ g, v8.ownBlock = some g → v9.ownBlock ≠ some g) ∧ Below w1.heap.size w1 wr)
    case atStart => first | exact ⟨0, by omega, rfl, Own.nil _ _ _ _ _, fun g h => (nomatch h), Below.refl _ _⟩ | exact ⟨0, by omega, rfl, Own.nil _ _ _ _ _, Own.nil _ _ _ _ _, fun g h => (nomatch h), Below.refl _ _⟩
    case round =>
      obtain ⟨j, hj, rfl, hgone, hleft, hap, hb⟩ := hrel
      have Hj := Lib.hid hj
      have Gone := Lib.hid hgone
      have Left := Lib.hid hleft
      have Apart := Lib.hid hap
      have hzr := hb.size
      have hold : ∀ p : Addr, p.block < w1.heap.size → wr.cell? p = w1.cell? p := fun p hp => hb.cell hp
      have k2 := (hold ⟨b.rp, 2, none⟩ hltr).trans C2.out
      have Hold := Lib.hid hold
      clear hj hgone hleft hap hold
      by_cases hlj : j < L.length
      · obtain ⟨lb, lo, rfl, hlb, e0, e1, e2⟩ := Hls.out.at3 hlj rfl
        have d0 := (Hold.out ⟨lb, _, none⟩ hlb).trans e0
        have d1 := (Hold.out ⟨lb, _, none⟩ hlb).trans e1
        have d2 := (Hold.out ⟨lb, _, none⟩ hlb).trans e2
        obtain ⟨i, hi, hci, hck, hs1, hs2', _⟩ := hmay L[j] (List.getElem_mem hlj)
        have hcl := fun W hW => refClosed_any b O1 L[j].v L[j].k L[j].s W hW ⟨i, hi, hci⟩ hs1 hs2'
        rw [show (⟨L[j].v, L[j].k, L[j].s⟩ : Cell) = L[j] from rfl] at hcl
        have hf1 := filter_snoc hlj (shutC O1)
        have hf2 := filter_snoc hlj (fun c => !shutC O1 c)
        have Hf1 := Lib.hid hf1
        have Hf2 := Lib.hid hf2
        have hl1 : ((L.take j).filter (shutC O1)).length ≤ 100000000 := Nat.le_trans (List.length_filter_le _ _) (by simp; omega)
        have hl2 : ((L.take j).filter fun c => !shutC O1 c).length ≤ 100000000 := Nat.le_trans (List.length_filter_le _ _) (by simp; omega)
        have hsd : shutC O1 L[j] = true ∨ shutC O1 L[j] = false := by cases shutC O1 L[j] <;> simp
        clear hf1 hf2 e0 e1 e2 hci hck hs1 hs2'
        generalize shutC O1 L[j] = q at *
        generalize L[j] = c at *
        obtain ⟨x, y, z⟩ := c
        dsimp only at d0 d1 d2 hcl
        go_wp2_with fail
        refine (hcl _ (Href1.out.below hb)).mono ?_
        rintro e w2 ⟨rfl, hbc⟩
        have hz2 := hbc.size
        have hb2 : Below w1.heap.size w1 w2 := hb.trans (hbc.mono hzr)
        have Gone2 := Lib.hid (Gone.out.below hbc)
        have Left2 := Lib.hid (Left.out.below hbc)
        have k22 := (hbc.cell (p := ⟨b.rp, 2, none⟩) (by show b.rp < _; omega)).trans k2
        have d02 := (hbc.cell (p := ⟨lb, lo + j * 3, none⟩) (by show lb < _; omega)).trans d0
        have d12 := (hbc.cell (p := ⟨lb, lo + j * 3 + 1, none⟩) (by show lb < _; omega)).trans d1
        have d22 := (hbc.cell (p := ⟨lb, lo + j * 3 + 2, none⟩) (by show lb < _; omega)).trans d2
        clear d0 d1 d2 k2 hcl
        rcases hsd with hq | hq
        · subst hq
          have hme := Gone2.out.alloc (.cells #[.int .i64 x, .string y, .int .i64 z] 51)
          have hot := Left2.out.alloc (.cells #[.int .i64 x, .string y, .int .i64 z] 51)
          have Hme := Lib.hid hme
          have Hot := Lib.hid hot
          clear hme hot
          go_wp2_with (at_builtin; refine wpList_appAt st_cell rfl _ _ rfl cellL (fun _ => rfl) cells1_cell w1.heap.size _ ((L.take j).filter (shutC O1)) rfl Hme.out (some ⟨w2.heap.size, 0, none⟩) 1 ⟨x, y, z⟩ rfl ?q1gone ?q2gone ?q3gone ?q4gone ?_)
          have h9 := sl_new (sz := 3) (enc := cellL) (⟨x, y, z⟩ : Cell) w2 51 (cs := #[.int .i64 x, .string y, .int .i64 z]) rfl
          try any_goals (first | exact h9 | (simp; done) | omega | (simp; omega) | decide)
          intro v' w5 hown6 hgr hat
          have hb5 : Below w1.heap.size w1 w5 := (hb2.alloc (by omega) _).grown hgr (by simp; omega) (fun g hg => (Hme.out.ge hg).1)
          have hot5 := Hot.out.keep (w' := w5) fun g hg hlt => hgr.block g hlt (fun e => Apart.out g e.symm hg)
          have Hown6 := Lib.hid hown6
          have Hot5 := Lib.hid hot5
          have hap5 : ∀ g, v'.ownBlock = some g → u9.ownBlock ≠ some g := by
            intro g hg hg2
            rcases hat with e | e
            · rw [hg] at e
              exact Apart.out g e.symm hg2
            · rw [hg] at e
              have := (Left2.out.ge hg2).2
              cases e
              first | omega | (simp at this; omega)
          have Hap5 := Lib.hid hap5
          clear hown6 hot5 hap5 hat
          go_wp2_with fail
          go_roundg (gk - 1)
          case measure => have := Hj.out; omega
          case rel => exact ⟨j + 1, by have := Hj.out; omega, by go_num, by rw [Hf1.out]; simpa using Hown6.out, by rw [Hf2.out]; simpa using Hot5.out, Hap5.out, hb5⟩
        · subst hq
          have hme := Left2.out.alloc (.cells #[.int .i64 x, .string y, .int .i64 z] 51)
          have hot := Gone2.out.alloc (.cells #[.int .i64 x, .string y, .int .i64 z] 51)
          have Hme := Lib.hid hme
          have Hot := Lib.hid hot
          clear hme hot
          go_wp2_with (at_builtin; refine wpList_appAt st_cell rfl _ _ rfl cellL (fun _ => rfl) cells1_cell w1.heap.size _ ((L.take j).filter fun c => !shutC O1 c) rfl Hme.out (some ⟨w2.heap.size, 0, none⟩) 1 ⟨x, y, z⟩ rfl ?q1left ?q2left ?q3left ?q4left ?_)
          have h9 := sl_new (sz := 3) (enc := cellL) (⟨x, y, z⟩ : Cell) w2 51 (cs := #[.int .i64 x, .string y, .int .i64 z]) rfl
          try any_goals (first | exact h9 | (simp; done) | omega | (simp; omega) | decide)
          intro v' w5 hown6 hgr hat
          have hb5 : Below w1.heap.size w1 w5 := (hb2.alloc (by omega) _).grown hgr (by simp; omega) (fun g hg => (Hme.out.ge hg).1)
          have hot5 := Hot.out.keep (w' := w5) fun g hg hlt => hgr.block g hlt (fun e => Apart.out g hg e.symm)
          have Hown6 := Lib.hid hown6
          have Hot5 := Lib.hid hot5
          have hap5 : ∀ g, v'.ownBlock = some g → u8.ownBlock ≠ some g := by
            intro g hg hg2
            rcases hat with e | e
            · rw [hg] at e
              exact Apart.out g hg2 e.symm
            · rw [hg] at e
              have := (Gone2.out.ge hg2).2
              cases e
              first | omega | (simp at this; omega)
          have Hap5 := Lib.hid hap5
          clear hown6 hot5 hap5 hat
          go_wp2_with fail
          go_roundg (gk - 1)
          case measure => have := Hj.out; omega
          case rel => exact ⟨j + 1, by have := Hj.out; omega, by go_num, by rw [Hf1.out]; simpa using Hot5.out, by rw [Hf2.out]; simpa using Hown6.out, fun g h1 h2 => Hap5.out g h2 h1, hb5⟩
      · have hjl : j = L.length := by have := Hj.out; omega
        have hgone := Gone.out
        have hleft := Left.out
        rw [hjl, List.take_length] at hgone hleft
        obtain ⟨o9, cap9, e9, _, _, _, _⟩ := hleft.sl fun _ => rfl
        generalize (L.filter fun c => !shutC O1 c).length = n9 at e9
        subst e9
        have hop := Href1.out.below hb
        obtain ⟨l9, hl9, _⟩ := hop.obj
        have fz : wr.frozen? ⟨b.rp, 2, none⟩ = false := by simp [World.frozen?, hl9]
        have hopT := hop.turned (l' := .slice o9 n9 cap9) (Own.mono (B' := w.heap.size) hleft (by have := Hch1.out.size; omega)) HF.out (List.Pairwise.sublist (List.filter_sublist) hrise) (fun c hc => hmay c ((List.mem_filter.1 hc).1))
        have HopT := Lib.hid hopT
        have HgT := Lib.hid (hgone.setObj hl9 (by decide) (.slice o9 n9 cap9) (off := 2))
        clear hopT hop hl9 hgone hleft hjl Left Gone
        go_wp2_with fail
        go_ret2
        rw [HLL.out]
        refine ⟨_, rfl, Own.mono (B := w1.heap.size) (B' := w.heap.size) HgT.out (by have := Hch1.out.size; omega), HopT.out, ?_⟩
        exact ((Hch1.out.mono (by simp)).thenB hb).trans (Chg.set _ (l := [b.rp, b.rl]) (by show b.rp ∈ [b.rp, b.rl]; simp) _)
  · have Href1 := Lib.hid (HB.out hgt)
    have Hch1 := Lib.hid (Chg.refl [b.rl] w)
    go_enter Try.func36, Try.ntmps36
    go_wp2_with fail
    obtain ⟨av', vcap', la', lcap', _, _, _, hls', _, _, hlc', _, _, c2'⟩ := Href1.out.sl
    have Hls := Lib.hid hls'
    have C2 := Lib.hid c2'
    clear hls' c2' c0 c1 c2 hck fzm HA HB hls hmk
    generalize hLL : O1.live = L at *
    have HLL := Lib.hid hLL
    clear hLL
    go_loopg [8, 9, 10] L.length (fun g v8 v9 i wr => ∃ j : Nat, j + g = L.length ∧ i = .int .i64 j ∧ Own 51 3 cellL w.heap.size wr v8 ((L.take j).filter (shutC O1)) ∧ Own 51 3 cellL w.heap.size wr v9 ((L.take j).filter fun c => !shutC O1 c) ∧ (∀ g, v8.ownBlock = some g → v9.ownBlock ≠ some g) ∧ Below w.heap.size w wr)
    case atStart => first | exact ⟨0, by omega, rfl, Own.nil _ _ _ _ _, fun g h => (nomatch h), Below.refl _ _⟩ | exact ⟨0, by omega, rfl, Own.nil _ _ _ _ _, Own.nil _ _ _ _ _, fun g h => (nomatch h), Below.refl _ _⟩
    case round =>
      obtain ⟨j, hj, rfl, hgone, hleft, hap, hb⟩ := hrel
      have Hj := Lib.hid hj
      have Gone := Lib.hid hgone
      have Left := Lib.hid hleft
      have Apart := Lib.hid hap
      have hzr := hb.size
      have hold : ∀ p : Addr, p.block < w.heap.size → wr.cell? p = w.cell? p := fun p hp => hb.cell hp
      have k2 := (hold ⟨b.rp, 2, none⟩ hltr).trans C2.out
      have Hold := Lib.hid hold
      clear hj hgone hleft hap hold
      by_cases hlj : j < L.length
      · obtain ⟨lb, lo, rfl, hlb, e0, e1, e2⟩ := Hls.out.at3 hlj rfl
        have d0 := (Hold.out ⟨lb, _, none⟩ hlb).trans e0
        have d1 := (Hold.out ⟨lb, _, none⟩ hlb).trans e1
        have d2 := (Hold.out ⟨lb, _, none⟩ hlb).trans e2
        obtain ⟨i, hi, hci, hck, hs1, hs2', _⟩ := hmay L[j] (List.getElem_mem hlj)
        have hcl := fun W hW => refClosed_any b O1 L[j].v L[j].k L[j].s W hW ⟨i, hi, hci⟩ hs1 hs2'
        rw [show (⟨L[j].v, L[j].k, L[j].s⟩ : Cell) = L[j] from rfl] at hcl
        have hf1 := filter_snoc hlj (shutC O1)
        have hf2 := filter_snoc hlj (fun c => !shutC O1 c)
        have Hf1 := Lib.hid hf1
        have Hf2 := Lib.hid hf2
        have hl1 : ((L.take j).filter (shutC O1)).length ≤ 100000000 := Nat.le_trans (List.length_filter_le _ _) (by simp; omega)
        have hl2 : ((L.take j).filter fun c => !shutC O1 c).length ≤ 100000000 := Nat.le_trans (List.length_filter_le _ _) (by simp; omega)
        have hsd : shutC O1 L[j] = true ∨ shutC O1 L[j] = false := by cases shutC O1 L[j] <;> simp
        clear hf1 hf2 e0 e1 e2 hci hck hs1 hs2'
        generalize shutC O1 L[j] = q at *
        generalize L[j] = c at *
        obtain ⟨x, y, z⟩ := c
        dsimp only at d0 d1 d2 hcl
        go_wp2_with fail
        refine (hcl _ (Href1.out.below hb)).mono ?_
        rintro e w2 ⟨rfl, hbc⟩
        have hz2 := hbc.size
        have hb2 : Below w.heap.size w w2 := hb.trans (hbc.mono hzr)
        have Gone2 := Lib.hid (Gone.out.below hbc)
        have Left2 := Lib.hid (Left.out.below hbc)
        have k22 := (hbc.cell (p := ⟨b.rp, 2, none⟩) (by show b.rp < _; omega)).trans k2
        have d02 := (hbc.cell (p := ⟨lb, lo + j * 3, none⟩) (by show lb < _; omega)).trans d0
        have d12 := (hbc.cell (p := ⟨lb, lo + j * 3 + 1, none⟩) (by show lb < _; omega)).trans d1
        have d22 := (hbc.cell (p := ⟨lb, lo + j * 3 + 2, none⟩) (by show lb < _; omega)).trans d2
        clear d0 d1 d2 k2 hcl
        rcases hsd with hq | hq
        · subst hq
          have hme := Gone2.out.alloc (.cells #[.int .i64 x, .string y, .int .i64 z] 51)
          have hot := Left2.out.alloc (.cells #[.int .i64 x, .string y, .int .i64 z] 51)
          have Hme := Lib.hid hme
          have Hot := Lib.hid hot
          clear hme hot
          go_wp2_with (at_builtin; refine wpList_appAt st_cell rfl _ _ rfl cellL (fun _ => rfl) cells1_cell w.heap.size _ ((L.take j).filter (shutC O1)) rfl Hme.out (some ⟨w2.heap.size, 0, none⟩) 1 ⟨x, y, z⟩ rfl ?r1gone ?r2gone ?r3gone ?r4gone ?_)
          have h9 := sl_new (sz := 3) (enc := cellL) (⟨x, y, z⟩ : Cell) w2 51 (cs := #[.int .i64 x, .string y, .int .i64 z]) rfl
          try any_goals (first | exact h9 | (simp; done) | omega | (simp; omega) | decide)
          intro v' w5 hown6 hgr hat
          have hb5 : Below w.heap.size w w5 := (hb2.alloc (by omega) _).grown hgr (by simp; omega) (fun g hg => (Hme.out.ge hg).1)
          have hot5 := Hot.out.keep (w' := w5) fun g hg hlt => hgr.block g hlt (fun e => Apart.out g e.symm hg)
          have Hown6 := Lib.hid hown6
          have Hot5 := Lib.hid hot5
          have hap5 : ∀ g, v'.ownBlock = some g → u9.ownBlock ≠ some g := by
            intro g hg hg2
            rcases hat with e | e
            · rw [hg] at e
              exact Apart.out g e.symm hg2
            · rw [hg] at e
              have := (Left2.out.ge hg2).2
              cases e
              first | omega | (simp at this; omega)
          have Hap5 := Lib.hid hap5
          clear hown6 hot5 hap5 hat
          go_wp2_with fail
          go_roundg (gk - 1)
          case measure => have := Hj.out; omega
          case rel => exact ⟨j + 1, by have := Hj.out; omega, by go_num, by rw [Hf1.out]; simpa using Hown6.out, by rw [Hf2.out]; simpa using Hot5.out, Hap5.out, hb5⟩
        · subst hq
          have hme := Left2.out.alloc (.cells #[.int .i64 x, .string y, .int .i64 z] 51)
          have hot := Gone2.out.alloc (.cells #[.int .i64 x, .string y, .int .i64 z] 51)
          have Hme := Lib.hid hme
          have Hot := Lib.hid hot
          clear hme hot
          go_wp2_with (at_builtin; refine wpList_appAt st_cell rfl _ _ rfl cellL (fun _ => rfl) cells1_cell w.heap.size _ ((L.take j).filter fun c => !shutC O1 c) rfl Hme.out (some ⟨w2.heap.size, 0, none⟩) 1 ⟨x, y, z⟩ rfl ?r1left ?r2left ?r3left ?r4left ?_)
          have h9 := sl_new (sz := 3) (enc := cellL) (⟨x, y, z⟩ : Cell) w2 51 (cs := #[.int .i64 x, .string y, .int .i64 z]) rfl
          try any_goals (first | exact h9 | (simp; done) | omega | (simp; omega) | decide)
          intro v' w5 hown6 hgr hat
          have hb5 : Below w.heap.size w w5 := (hb2.alloc (by omega) _).grown hgr (by simp; omega) (fun g hg => (Hme.out.ge hg).1)
          have hot5 := Hot.out.keep (w' := w5) fun g hg hlt => hgr.block g hlt (fun e => Apart.out g hg e.symm)
          have Hown6 := Lib.hid hown6
          have Hot5 := Lib.hid hot5
          have hap5 : ∀ g, v'.ownBlock = some g → u8.ownBlock ≠ some g := by
            intro g hg hg2
            rcases hat with e | e
            · rw [hg] at e
              exact Apart.out g hg2 e.symm
            · rw [hg] at e
              have := (Gone2.out.ge hg2).2
              cases e
              first | omega | (simp at this; omega)
          have Hap5 := Lib.hid hap5
          clear hown6 hot5 hap5 hat
          go_wp2_with fail
          go_roundg (gk - 1)
          case measure => have := Hj.out; omega
          case rel => exact ⟨j + 1, by have := Hj.out; omega, by go_num, by rw [Hf1.out]; simpa using Hot5.out, by rw [Hf2.out]; simpa using Hown6.out, fun g h1 h2 => Hap5.out g h2 h1, hb5⟩
      · have hjl : j = L.length := by have := Hj.out; omega
        have hgone := Gone.out
        have hleft := Left.out
        rw [hjl, List.take_length] at hgone hleft
        obtain ⟨o9, cap9, e9, _, _, _, _⟩ := hleft.sl fun _ => rfl
        generalize (L.filter fun c => !shutC O1 c).length = n9 at e9
        subst e9
        have hop := Href1.out.below hb
        obtain ⟨l9, hl9, _⟩ := hop.obj
        have fz : wr.frozen? ⟨b.rp, 2, none⟩ = false := by simp [World.frozen?, hl9]
        have hopT := hop.turned (l' := .slice o9 n9 cap9) hleft HF.out (List.Pairwise.sublist (List.filter_sublist) hrise) (fun c hc => hmay c ((List.mem_filter.1 hc).1))
        have HopT := Lib.hid hopT
        have HgT := Lib.hid (hgone.setObj hl9 (by decide) (.slice o9 n9 cap9) (off := 2))
        clear hopT hop hl9 hgone hleft hjl Left Gone
        go_wp2_with fail
        go_ret2
        rw [HLL.out]
        refine ⟨_, rfl, Own.mono (B := w.heap.size) (B' := w.heap.size) HgT.out (by have := Hch1.out.size; omega), HopT.out, ?_⟩
        exact ((Hch1.out.mono (by simp)).thenB hb).trans (Chg.set _ (l := [b.rp, b.rl]) (by show b.rp ∈ [b.rp, b.rl]; simp) _)

end Go.Proofs.Ytheimbhnckaonaa
