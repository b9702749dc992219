/- due: the least cell that is due at an operator. (Printed by wip/mdue.py over mdue.head.lean.) -/
import Derived.Test.YtaicecnfodhlcaaJ03
import Derived.Test.YtaicecnfodhlcaaJ02
set_option linter.unusedVariables false
set_option linter.unusedSimpArgs false
namespace Go.Proofs.Ytaicecnfodhlcaa
open Go.RowKit Go.Deep

/-- Cell c is due at operator o. -/
def Mst.dueP (S : Mst) (o : Int) (c : Cell) : Bool := (oprK c.k S.cfg.op == o) && (S.cfg.vs.getD c.v.toNat default).shut c.s (leastOf (S.ms.getD o.toNat []))
/-- The first one. -/
def Mst.dueOf (S : Mst) (o : Int) : Option Cell := ((S.L.map (·.cell)).filter (S.dueP o)).head?
abbrev dueV (q : Option Cell) : Value := .tuple #[.agg #[.int .i64 (q.getD default).v, .string (q.getD default).k, .int .i64 (q.getD default).s], .bool q.isSome]

theorem mb_grow (w : World) (os : Array Obj) : Below w.heap.size w (Sort.grow w os) :=
  ⟨rfl, rfl, rfl, by simp [Sort.grow], fun k hk => by
    show (w.heap ++ os)[k]? = _
    rw [Array.getElem?_append_left hk]⟩
theorem mcompare_below (x y : Cell) (w : World) : Calls Try.prog 56 #[.agg #[.int .i64 x.v, .string x.k, .int .i64 x.s], .agg #[.int .i64 y.v, .string y.k, .int .i64 y.s]] w fun e w' => e = .returned (.int .i64 (ccmp x y)) ∧ Below w.heap.size w w' := by
  refine (compare_any x.v x.k x.s y.v y.k y.s w).mono ?_
  rintro e w' ⟨h, q, os', rfl⟩
  exact ⟨h, (Below.drewN (Below.refl _ _) q).trans (mb_grow (w.drewN q) os')⟩

/-- What has been seen of the map. -/
structure DueDone (p : Cell → Bool) (m left : List (Cell × Value)) (bs : Bool) (bc : Cell) : Prop where
  of : bs = true → bc ∈ m.map (·.1) ∧ p bc = true
  all : ∀ c ∈ m.map (·.1), c ∉ left.map (·.1) → p c = true → bs = true ∧ ¬ ccmp c bc < 0
  no : bs = false → bc = default
theorem DueDone.start (p : Cell → Bool) (m : List (Cell × Value)) : DueDone p m m false default := ⟨fun h => (by cases h), fun c h1 h2 => absurd h1 h2, fun _ => rfl⟩
theorem not_left {left : List (Cell × Value)} {c d : Cell} (h : c ∉ (left.filter fun q => decide (q.1 ≠ d)).map (·.1)) : c = d ∨ c ∉ left.map (·.1) := by
  by_cases hc : c = d
  · exact .inl hc
  · refine .inr fun hm => h ?_
    obtain ⟨q, hq, rfl⟩ := List.mem_map.1 hm
    exact List.mem_map.2 ⟨q, List.mem_filter.2 ⟨hq, by simpa using hc⟩, rfl⟩
theorem DueDone.skip {p : Cell → Bool} {m left : List (Cell × Value)} {bs : Bool} {bc d : Cell} (h : DueDone p m left bs bc) (hp : p d = true → bs = true ∧ ¬ ccmp d bc < 0) : DueDone p m (left.filter fun q => decide (q.1 ≠ d)) bs bc :=
  ⟨h.of, fun c h1 h2 h3 => by
    rcases not_left h2 with rfl | h2
    · exact hp h3
    · exact h.all c h1 h2 h3, h.no⟩
theorem DueDone.take {p : Cell → Bool} {m left : List (Cell × Value)} {bs : Bool} {bc d : Cell} (h : DueDone p m left bs bc) (hp : p d = true) (hm : d ∈ m.map (·.1)) (hb : bs = true → ccmp d bc < 0) : DueDone p m (left.filter fun q => decide (q.1 ≠ d)) true d :=
  ⟨fun _ => ⟨hm, hp⟩, fun c h1 h2 h3 => by
    rcases not_left h2 with rfl | h2
    · exact ⟨rfl, by rw [tot_cell.self]; omega⟩
    · obtain ⟨h4, h5⟩ := h.all c h1 h2 h3
      exact ⟨rfl, fun h6 => h5 (tot_cell.trans _ _ _ h6 (hb h4))⟩, fun h => (by cases h)⟩
theorem DueDone.fin {p : Cell → Bool} {m : List (Cell × Value)} {bs : Bool} {bc : Cell} {cs : List Cell} (h : DueDone p m [] bs bc) (hp : (m.map (·.1)).Perm cs) (hr : Rise cs) : dueV (cs.filter p).head? = .tuple #[.agg #[.int .i64 bc.v, .string bc.k, .int .i64 bc.s], .bool bs] := by
  cases hh : cs.filter p with
  | nil =>
    have hno : ∀ c ∈ cs, ¬ p c = true := List.filter_eq_nil_iff.1 hh
    cases bs with
    | false => rw [h.no rfl]; rfl
    | true =>
      obtain ⟨h1, h2⟩ := h.of rfl
      exact absurd h2 (hno _ (hp.mem_iff.1 h1))
  | cons a r =>
    have ha : a ∈ cs ∧ p a = true := List.mem_filter.1 (by rw [hh]; exact List.mem_cons_self)
    obtain ⟨h1, h2⟩ := h.all a (hp.mem_iff.2 ha.1) (by simp) ha.2
    subst h1
    obtain ⟨h3, h4⟩ := h.of rfl
    have hb : bc ∈ a :: r := by rw [← hh]; exact List.mem_filter.2 ⟨hp.mem_iff.1 h3, h4⟩
    have hrf : Rise (a :: r) := by rw [← hh]; exact List.Pairwise.sublist List.filter_sublist hr
    have hab : bc = a := by
      rcases List.mem_cons.1 hb with e | e
      · exact e
      · exact absurd ((List.pairwise_cons.1 hrf).1 bc e) h2
    subst hab
    rfl
theorem bodyPost_due {fn : Func} {p q : Tmp} (h : fn.results = #[.cell p 46, .tmp q]) {a : Act} {w : World} {R : Ending → World → Prop} {g : Nat} {c : Cell} (hp : a.tmps.getD p undef = .pointer (some ⟨g, 0, none⟩))
    (hb : w.heap[g]? = some (.cells #[.int .i64 c.v, .string c.k, .int .i64 c.s] 46 (0, 0))) (hd : a.defers = []) (hR : R (.returned (.tuple #[.agg #[.int .i64 c.v, .string c.k, .int .i64 c.s], a.tmps.getD q undef])) w) : bodyPost Try.prog fn R .ret a w :=
  bodyPost_ret (results_cell_tmp h a.tmps w g 46 _ (0, 0) _ hp hb Try.underlying46 rfl (by kernel_rfl)) hd hR
theorem toNat_lt {o : Int} {n : Nat} (h0 : 0 ≤ o) (h1 : o < n) : o.toNat < n := by omega

/-- What stays in the drawn region. -/
abbrev DueS (g7 g4 mp vb vo : Nat) (vs : Value) (va vb' vc xv xs bv bx : Int) (xk bk : ByteArray) (W0 W : World) : Prop :=
  Below W0.heap.size W0 W ∧ W.cell? ⟨mp, 0, none⟩ = some vs ∧ W.cell? ⟨vb, vo, none⟩ = some (.int .i64 va) ∧ W.cell? ⟨vb, vo + 1, none⟩ = some (.int .i64 vb') ∧ W.cell? ⟨vb, vo + 2, none⟩ = some (.int .i64 vc) ∧
    W.cell? ⟨g7, 0, none⟩ = some (.int .i64 xv) ∧ W.cell? ⟨g7, 1, none⟩ = some (.string xk) ∧ W.cell? ⟨g7, 2, none⟩ = some (.int .i64 xs) ∧ W.cell? ⟨g4, 0, none⟩ = some (.int .i64 bv) ∧ W.cell? ⟨g4, 1, none⟩ = some (.string bk) ∧ W.cell? ⟨g4, 2, none⟩ = some (.int .i64 bx)

set_option maxRecDepth 100000 in
set_option maxHeartbeats 8000000 in
theorem due_any {w : World} {B : MB} {S : Mst} (h : IsModel w B S) (o : Int) (h0 : 0 ≤ o) (h1 : o < S.cfg.op) (hmax : S.L.length ≤ 100000000) :
    Calls Try.prog 29 #[.pointer (some ⟨B.mp, 0, none⟩), .int .i64 o] w fun e w' => e = .returned (dueV (S.dueOf o)) ∧ Below w.heap.size w w' := by
  obtain ⟨c0, _, _, _, c12, c13, _⟩ := h.obj.cells
  have hmp : B.mp < w.heap.size := h.lt _ (by rw [h.obj.lb]; simp)
  have hio : o.toNat < S.ms.length := toNat_lt h0 (by rw [h.inv.msl]; exact h1)
  have hik : o.toNat < B.mks.length := by rw [h.marks.len]; exact hio
  have hio2 : (o.toNat : Int) = o := by omega
  obtain ⟨mb, mo, hme, hmb, hm0⟩ := (h.marks.own.sl0 (fun _ => rfl)).at1 hik rfl
  rw [Nat.mul_one] at hm0
  have hmk := (h.marks.at' o.toNat hik hio).1
  have hlo : S.ms.getD o.toNat [] = S.ms[o.toNat] := by simp [hio]
  generalize hbm : B.mks[o.toNat].1 = bm at *
  generalize hbl : B.mks[o.toNat].2 = bl at *
  generalize hmsE : S.ms[o.toNat] = ms at *
  have hsv := h.views.own.sl0 fun _ => rfl
  obtain ⟨m, hm, hpm⟩ := h.there.map
  have hbt := hm.lt
  have hnd := hm.nd
  have hml : m.length ≤ 100000000 := by have := hpm.length_eq; simp at this; omega
  have hkp : (m.map (·.1)).Perm (S.L.map (·.cell)) := by have := hpm.map (·.1); rw [List.map_map] at this; exact this
  have hcell : ∀ c ∈ m.map (·.1), ∃ (i : Nat) (_ : i < S.cfg.vs.length), c.v = (i : Int) ∧ c.k.size ≤ 32 ∧ -2305843009213693952 ≤ c.s ∧ c.s ≤ 2305843009213693952 := by
    intro c hc
    obtain ⟨r, hr, rfl⟩ := List.mem_map.1 (hkp.mem_iff.1 hc)
    obtain ⟨⟨i, hi, a, b, c, d, e⟩, _⟩ := h.inv.may r hr
    exact ⟨i, hi, a, c, d, e⟩
  have hvok := h.inv.cfg.vok
  have hrise := h.inv.rise
  have hdp : ∀ (c : Cell) (i : Nat) (hi : i < S.cfg.vs.length), c.v = (i : Int) → S.dueP o c = ((oprK c.k S.cfg.op == o) && (S.cfg.vs[i]).shut c.s (leastOf ms)) := by
    intro c i hi hc
    unfold Mst.dueP
    rw [hlo, hc]
    simp [hi]
  have hOpr := fun (W : World) (hW : Below w.heap.size w W) (k : ByteArray) (hk : k.size ≤ maxLen) => mOperator_any (h.below hW) k hk
  have hW0 : ∀ v : Value, v = v := fun _ => rfl
  have hb0 : Below w.heap.size w (w.alloc (.cells #[.int .i64 0, .string ⟨#[]⟩, .int .i64 0] 46)) := (Below.refl _ _).alloc (Nat.le_refl _) _
  have hls := marksLeast_any bm bl ms _ (hmk.keep (hb0.block _ hmk.lt.1) (hb0.block _ hmk.lt.2))
  have hm2 := hm.keep (hb0.block _ hbt)
  have e4 : (w.alloc (.cells #[.int .i64 0, .string ⟨#[]⟩, .int .i64 0] 46)).heap[w.heap.size]? = some (.cells #[.int .i64 0, .string ⟨#[]⟩, .int .i64 0] 46 (0, 0)) := blk_at rfl
  have Hcell := Lib.hid hcell
  have Hvok := Lib.hid hvok
  have Hdp := Lib.hid hdp
  have Hopr := Lib.hid hOpr
  have Hkp := Lib.hid hkp
  have Hsv := Lib.hid hsv
  have Hrise := Lib.hid hrise
  have Hb0 := Lib.hid hb0
  have E4 := Lib.hid e4
  clear hcell hvok hdp hOpr hkp hsv hrise hb0 hW0 e4 hpm hm hmk hmax
  clear h
  go_enter Try.func29, Try.ntmps29
  go_wp2_with fail
  refine hls.mono ?_
  rintro e w1 ⟨rfl, rfl⟩
  go_wp2_with (at_range; refine wpList_rangeM rfl _ rfl Try.underlying83 B.bt m rfl hm2 ?_)
  intro w1 hrg hg1 hs1
  have hb1 : Below w.heap.size w w1 := Hb0.out.grown hg1 (by simp) (fun k hk => by cases hk)
  have e4 := (hg1.block w.heap.size (by simp) (fun e => by cases e)).trans E4.out
  have hs1b := Nat.le_of_eq hs1.symm
  clear hs1 hg1
  go_wp2_with fail
  go_loopg [5] m.length (fun g v wr => ∃ (bs : Bool) (bc : Cell) (left : List (Cell × Value)), g = left.length ∧ v = .bool bs ∧ Ranging cellV wr B.bt (w.heap.size + 1) m left ∧ wr.heap[w.heap.size]? = some (.cells #[.int .i64 bc.v, .string bc.k, .int .i64 bc.s] 46 (0, 0)) ∧ DueDone (S.dueP o) m left bs bc ∧ Below w.heap.size w wr ∧ w.heap.size + 2 ≤ wr.heap.size)
  case atStart => exact ⟨false, default, m, rfl, rfl, hrg, e4, DueDone.start _ _, hb1, by omega⟩
  case round =>
    obtain ⟨bs, bc, left, hg, rfl, hrg, e4, hdd, hb, hsz⟩ := hrel
    have Hg := Lib.hid hg
    have Hdd := Lib.hid hdd
    have E4 := Lib.hid e4
    clear hg hdd e4
    go_wp2_with (at_next; refine wpList_nextC rfl _ rfl B.bt (w.heap.size + 1) m left rfl hrg ?_ ?_)
    · intro hl0
      have hddF := Hdd.out
      rw [hl0] at hddF
      have hfin := hddF.fin Hkp.out Hrise.out
      have Hfin := Lib.hid hfin
      have r4 := E4.out
      have c40 := cell_blk r4 0
      have c41 := cell_blk r4 1
      have c42 := cell_blk r4 2
      simp at c40 c41 c42
      have fr := frozen_blk r4
      clear hddF hfin hl0 r4
      go_wp2_with fail
      refine bodyPost_due (c := bc) rfl rfl ?_ rfl ⟨?_, ?_⟩
      · exact set_obj (set_obj (set_obj E4.out 0 _) 1 _) 2 _
      · have hf := Hfin.out
        unfold Mst.dueOf
        rw [hf]
        rfl
      · exact ((hb.setCell (p := ⟨w.heap.size, 0, none⟩) (Nat.le_refl _) _).setCell (p := ⟨w.heap.size, 1, none⟩) (Nat.le_refl _) _).setCell (p := ⟨w.heap.size, 2, none⟩) (Nat.le_refl _) _
    · intro c y w2 hpl hrg2 hgr2 hs2 hen
      have hs2a := Nat.le_of_eq hs2
      have hs2b := Nat.le_of_eq hs2.symm
      clear hs2
      have hym := hrg.sub.subset hpl
      have hcm : c ∈ m.map (·.1) := List.mem_map.2 ⟨_, hym, rfl⟩
      have hb2 : Below w.heap.size w w2 := hb.grown hgr2 (by omega) (fun k hk => by cases hk; exact Nat.le_succ _)
      have e42 := (hgr2.block w.heap.size (by omega) (fun e => absurd (Option.some.inj e) (by omega))).trans E4.out
      have hln : (left.map (·.1)).Nodup := hnd.sublist (List.Sublist.map _ hrg.sub)
      have hlen := (left_perm hln hpl).length_eq
      have Hlen := Lib.hid (show (left.filter fun q => decide (q.1 ≠ c)).length + 1 = left.length from by simpa using hlen)
      have hgeq := Hg.out
      obtain ⟨i, hi, hci, hck, hcs1, hcs2⟩ := Hcell.out c hcm
      have hmax : c.k.size ≤ maxLen := Nat.le_trans hck (by decide)
      obtain ⟨vb, vo, hve, hvb, v0, v1, v2⟩ := Hsv.out.at3 hi rfl
      have hvok := Hvok.out S.cfg.vs[i] (List.getElem_mem hi)
      have hdp := Hdp.out c i hi hci
      have hOp := fun (W : World) (hW : Below w2.heap.size w2 W) => Hopr.out W (hb2.trans (hW.mono hb2.size)) c.k hmax
      have hYes : S.dueP o c = true → (bs = true → ccmp c bc < 0) → DueDone (S.dueP o) m (left.filter fun q => decide (q.1 ≠ c)) true c := fun hp hc => Hdd.out.take hp hcm hc
      have hNo : (S.dueP o c = true → bs = true ∧ ¬ ccmp c bc < 0) → DueDone (S.dueP o) m (left.filter fun q => decide (q.1 ≠ c)) bs bc := fun hc => Hdd.out.skip hc
      generalize S.cfg.vs[i] = vw at *
      obtain ⟨va, vb', vc⟩ := vw
      obtain ⟨xv, xk, xs⟩ := c
      obtain ⟨bv, bk, bx⟩ := bc
      dsimp only at *
      subst hci
      rw [hve] at c0
      have hCl := fun W => closed_any va vb' vc xs (leastOf ms) W hvok (by omega) (by omega)
      have hb3 := (Below.refl w2.heap.size w2).alloc (Nat.le_refl _) (.cells #[.int .i64 i, .string xk, .int .i64 xs] 46)
      have hb23 := hb2.trans (hb3.mono hb2.size)
      have hz3 : w2.heap.size + 1 = (w2.alloc (.cells #[.int .i64 i, .string xk, .int .i64 xs] 46)).heap.size := by simp
      have kp : ∀ W, Below (w2.heap.size + 1) (w2.alloc (.cells #[.int .i64 i, .string xk, .int .i64 xs] 46)) W → DueS w2.heap.size w.heap.size B.mp vb (vo + i * 3) (.slice (some ⟨vb, vo, none⟩) S.cfg.vs.length B.vcap) va vb' vc i xs bv bx xk bk (w2.alloc (.cells #[.int .i64 i, .string xk, .int .i64 xs] 46)) W := by
        intro W hW
        have hbw := hb23.trans (hW.mono (by omega))
        have f4 := (hW.block w.heap.size (by omega)).trans ((blk_old (by omega)).trans e42)
        have f7 := (hW.block w2.heap.size (by omega)).trans (blk_at (w := w2) (o := .cells #[.int .i64 i, .string xk, .int .i64 xs] 46) rfl)
        exact ⟨by rw [← hz3]; exact hW, (hbw.cell (p := ⟨B.mp, 0, none⟩) hmp).trans c0, (hbw.cell (p := ⟨vb, _, none⟩) hvb).trans v0, (hbw.cell (p := ⟨vb, _, none⟩) hvb).trans v1, (hbw.cell (p := ⟨vb, _, none⟩) hvb).trans v2,
          cell_blk f7 0, cell_blk f7 1, cell_blk f7 2, cell_blk f4 0, cell_blk f4 1, cell_blk f4 2⟩
      have hOp2 : ∀ W, Below (w2.heap.size + 1) (w2.alloc (.cells #[.int .i64 i, .string xk, .int .i64 xs] 46)) W → Calls Try.prog 20 #[.pointer (some ⟨B.mp, 0, none⟩), .string xk] W fun e w' => e = .returned (.int .i64 (oprK xk S.cfg.op)) ∧ Below W.heap.size W w' := fun W hW => hOp W (hb3.trans (hW.mono (by omega)))
      have hrgE : ∀ W, Below (w2.heap.size + 1) (w2.alloc (.cells #[.int .i64 i, .string xk, .int .i64 xs] 46)) W → Ranging cellV W B.bt (w.heap.size + 1) m (left.filter fun q => decide (q.1 ≠ (⟨i, xk, xs⟩ : Cell))) ∧ W.heap[w.heap.size]? = some (.cells #[.int .i64 bv, .string bk, .int .i64 bx] 46 (0, 0)) ∧ Below w.heap.size w W ∧ w.heap.size + 2 ≤ W.heap.size := by
        intro W hW
        have hW2 := hb3.trans (hW.mono (by omega))
        have := hW.size
        exact ⟨by simpa using hrg2.keep (hW2.block B.bt (by omega)) (hW2.block (w.heap.size + 1) (by omega)), (hW2.block _ (by omega)).trans e42, hb23.trans (hW.mono (by omega)), by omega⟩
      have hEnd : ∀ W b' c', DueDone (S.dueP o) m (left.filter fun q => decide (q.1 ≠ (⟨i, xk, xs⟩ : Cell))) b' ⟨bv, bk, bx⟩ → c' = b' → Below (w2.heap.size + 1) (w2.alloc (.cells #[.int .i64 i, .string xk, .int .i64 xs] 46)) W → ∃ (bs : Bool) (bc : Cell) (left' : List (Cell × Value)), (left.filter fun q => decide (q.1 ≠ (⟨i, xk, xs⟩ : Cell))).length = left'.length ∧ Value.bool c' = .bool bs ∧ Ranging cellV W B.bt (w.heap.size + 1) m left' ∧ W.heap[w.heap.size]? = some (.cells #[.int .i64 bc.v, .string bc.k, .int .i64 bc.s] 46 (0, 0)) ∧ DueDone (S.dueP o) m left' bs bc ∧ Below w.heap.size w W ∧ w.heap.size + 2 ≤ W.heap.size := by
        rintro W b' c' hd rfl hW
        obtain ⟨a1, a2, a3, a4⟩ := hrgE W hW
        exact ⟨_, _, _, rfl, rfl, a1, a2, hd, a3, a4⟩
      have hEndY : ∀ W, DueDone (S.dueP o) m (left.filter fun q => decide (q.1 ≠ (⟨i, xk, xs⟩ : Cell))) true ⟨i, xk, xs⟩ → Below (w2.heap.size + 1) (w2.alloc (.cells #[.int .i64 i, .string xk, .int .i64 xs] 46)) W → ∃ (bs : Bool) (bc : Cell) (left' : List (Cell × Value)), (left.filter fun q => decide (q.1 ≠ (⟨i, xk, xs⟩ : Cell))).length = left'.length ∧ Value.bool true = .bool bs ∧ Ranging cellV (((W.setCell ⟨w.heap.size, 0, none⟩ (.int .i64 i)).setCell ⟨w.heap.size, 1, none⟩ (.string xk)).setCell ⟨w.heap.size, 2, none⟩ (.int .i64 xs)) B.bt (w.heap.size + 1) m left' ∧ (((W.setCell ⟨w.heap.size, 0, none⟩ (.int .i64 i)).setCell ⟨w.heap.size, 1, none⟩ (.string xk)).setCell ⟨w.heap.size, 2, none⟩ (.int .i64 xs)).heap[w.heap.size]? = some (.cells #[.int .i64 bc.v, .string bc.k, .int .i64 bc.s] 46 (0, 0)) ∧ DueDone (S.dueP o) m left' bs bc ∧ Below w.heap.size w (((W.setCell ⟨w.heap.size, 0, none⟩ (.int .i64 i)).setCell ⟨w.heap.size, 1, none⟩ (.string xk)).setCell ⟨w.heap.size, 2, none⟩ (.int .i64 xs)) ∧ w.heap.size + 2 ≤ (((W.setCell ⟨w.heap.size, 0, none⟩ (.int .i64 i)).setCell ⟨w.heap.size, 1, none⟩ (.string xk)).setCell ⟨w.heap.size, 2, none⟩ (.int .i64 xs)).heap.size := by
        rintro W hd hW
        obtain ⟨a1, a2, a3, a4⟩ := hrgE W hW
        have hne : ∀ g, g ≠ w.heap.size → (((W.setCell ⟨w.heap.size, 0, none⟩ (.int .i64 i)).setCell ⟨w.heap.size, 1, none⟩ (.string xk)).setCell ⟨w.heap.size, 2, none⟩ (.int .i64 xs)).heap[g]? = W.heap[g]? := fun g hg => (Below.heap_setCell _ _ _ _ hg).trans ((Below.heap_setCell _ _ _ _ hg).trans (Below.heap_setCell _ _ _ _ hg))
        refine ⟨true, ⟨i, xk, xs⟩, _, rfl, rfl, a1.keep (hne _ (by omega)) (hne _ (by omega)), ?_, hd, ((a3.setCell (p := ⟨w.heap.size, 0, none⟩) (Nat.le_refl _) _).setCell (p := ⟨w.heap.size, 1, none⟩) (Nat.le_refl _) _).setCell (p := ⟨w.heap.size, 2, none⟩) (Nat.le_refl _) _, ?_⟩
        · exact set_obj (set_obj (set_obj a2 0 _) 1 _) 2 _
        · simpa [World.setCell] using a4
      have hfz : ∀ W, Below (w2.heap.size + 1) (w2.alloc (.cells #[.int .i64 i, .string xk, .int .i64 xs] 46)) W → ∀ k, W.frozen? ⟨w.heap.size, k, none⟩ = false := fun W hW k => frozen_blk (hrgE W hW).2.1 k
      rw [hz3] at hEnd hEndY
      have hEnd2 := Lib.hid hEnd
      have hEndY2 := Lib.hid hEndY
      have HYes := Lib.hid hYes
      have HNo := Lib.hid hNo
      have Hdp2 := Lib.hid hdp
      have Hmeas := Lib.hid (show (left.filter fun q => decide (q.1 ≠ (⟨i, xk, xs⟩ : Cell))).length < gk from Nat.lt_of_lt_of_eq (Nat.lt_of_lt_of_eq (Nat.lt_succ_self _) Hlen.out) hgeq.symm)
      have kpD := kp _ (Below.refl _ _).drew
      clear hYes hNo hdp hrg2 hrg hlen hln hpl hym hcm Hdd Hcell Hvok Hdp Hopr Hkp Hsv Hrise E4 Hg hrgE hEnd hEndY hb23 hb3 e42 hOp hgeq v0 v1 v2 hvok hcs1 hcs2 hck hmax hb2 Hlen
      rw [hz3] at kp hOp2 hfz
      have Hkp0 := Lib.hid kp
      have HOp2 := Lib.hid hOp2
      have Hfz := Lib.hid hfz
      clear kp hOp2 hfz hz3 kpD
      go_wp2_with fail
      generalize w2.alloc (.cells #[.int .i64 i, .string xk, .int .i64 xs] 46) = W0 at *
      generalize w2.heap.size = g7 at *
      generalize w.heap.size = g4 at *
      have kp := Hkp0.out
      have hOp := HOp2.out
      have hfz := Hfz.out
      have hkp0 := kp _ (Below.refl _ _).drew
      clear Hkp0 HOp2 Hfz
      refine wp_region_held_drew (S := DueS g7 g4 B.mp vb (vo + i * 3) (.slice (some ⟨vb, vo, none⟩) S.cfg.vs.length B.vcap) va vb' vc i xs bv bx xk bk W0) (by kernel_rfl) hkp0 (fun HS => ?_)
      refine wpAnyH_takeD (i := 0) (oi := _) (d := 25) (v := ?va0) rfl (by kernel_rfl) (by kernel_rfl) (by kernel_rfl) (by kernel_rfl) (fun _ _ _ h => h) (Or.inl ⟨by kernel_rfl, ?ya0⟩) (by assumption) ?ra0
      case ya0 =>
        intro w' hSw
        try dsimp only at hSw
        go_simp
        try with_reducible rfl
      try simp only [Act.put, List.setIfInBounds_toArray, List.set_cons_zero, List.set_cons_succ]
      refine wpAnyH_takeD (i := 1) (oi := _) (d := 26) (v := ?va1) rfl (by kernel_rfl) (by kernel_rfl) (by kernel_rfl) (by kernel_rfl) (fun _ _ _ h => h) (Or.inl ⟨by kernel_rfl, ?ya1⟩) (by assumption) ?ra1
      case ya1 =>
        intro w' hSw
        try dsimp only at hSw
        go_simp
        try with_reducible rfl
      try simp only [Act.put, List.setIfInBounds_toArray, List.set_cons_zero, List.set_cons_succ]
      refine wpAnyH_takeD (i := 2) (oi := _) (d := 27) (v := ?va2) rfl (by kernel_rfl) (by kernel_rfl) (by kernel_rfl) (by kernel_rfl) (fun _ _ _ h => h) (Or.inl ⟨by kernel_rfl, ?ya2⟩) (by assumption) ?ra2
      case ya2 =>
        intro w' hSw
        try dsimp only at hSw
        go_simp
        try with_reducible rfl
      try simp only [Act.put, List.setIfInBounds_toArray, List.set_cons_zero, List.set_cons_succ]
      refine wpAnyH_takeD (i := 4) (oi := _) (d := 29) (v := ?va4) rfl (by kernel_rfl) (by kernel_rfl) (by kernel_rfl) (by kernel_rfl) (fun _ _ _ h => h) (Or.inl ⟨by kernel_rfl, ?ya4⟩) (by assumption) ?ra4
      case ya4 =>
        intro w' hSw
        try dsimp only at hSw
        go_simp
        try with_reducible rfl
      try simp only [Act.put, List.setIfInBounds_toArray, List.set_cons_zero, List.set_cons_succ]
      refine wpAnyH_ready (rs := [3]) (by kernel_rfl) (by simp) ?_
      refine AllReadyH.cons (o := _) rfl (fun K hK => ?_) AllReadyH.nil
      go_simp
      go_at_call 20
      refine (hOp _ hkp0.1).mono ?_
      rintro e w3 ⟨rfl, hb3⟩
      have hk3 := kp _ (hkp0.1.trans (hb3.mono hkp0.1.size))
      refine hK.out _ _ hk3 (fun _ => ?_)
      clear hK K
      try simp only [Act.put, List.setIfInBounds_toArray, List.set_cons_zero, List.set_cons_succ]
      refine wpAnyH_takeD (i := 5) (oi := _) (d := 30) (v := ?vb5) rfl (by kernel_rfl) (by kernel_rfl) (by kernel_rfl) (by kernel_rfl) (fun _ _ _ h => h) (Or.inl ⟨by kernel_rfl, ?yb5⟩) (by assumption) ?rb5
      case yb5 =>
        intro w' hSw
        try dsimp only at hSw
        go_simp
        try with_reducible rfl
      try simp only [Act.put, List.setIfInBounds_toArray, List.set_cons_zero, List.set_cons_succ]
      refine wpAnyH_takeD (i := 6) (oi := _) (d := 31) (v := ?vb6) rfl (by kernel_rfl) (by kernel_rfl) (by kernel_rfl) (by kernel_rfl) (fun _ _ _ h => h) (Or.inl ⟨by kernel_rfl, ?yb6⟩) (by assumption) ?rb6
      case yb6 =>
        intro w' hSw
        try dsimp only at hSw
        go_simp
        try with_reducible rfl
      try simp only [Act.put, List.setIfInBounds_toArray, List.set_cons_zero, List.set_cons_succ]
      cases hopd : (oprK xk S.cfg.op == o)
      · refine wpAnyH_takeD (i := 7) (oi := _) (d := 32) (v := undef) rfl (by kernel_rfl) (by kernel_rfl) (by kernel_rfl) (by kernel_rfl) (fun _ _ _ h => h) (Or.inr ⟨by kernel_rfl, rfl⟩) (by assumption) ?_
        try simp only [Act.put, List.setIfInBounds_toArray, List.set_cons_zero, List.set_cons_succ]
        refine wpAnyH_takeD (i := 8) (oi := _) (d := 33) (v := undef) rfl (by kernel_rfl) (by kernel_rfl) (by kernel_rfl) (by kernel_rfl) (fun _ _ _ h => h) (Or.inr ⟨by kernel_rfl, rfl⟩) (by assumption) ?_
        try simp only [Act.put, List.setIfInBounds_toArray, List.set_cons_zero, List.set_cons_succ]
        refine wpAnyH_takeD (i := 9) (oi := _) (d := 34) (v := undef) rfl (by kernel_rfl) (by kernel_rfl) (by kernel_rfl) (by kernel_rfl) (fun _ _ _ h => h) (Or.inr ⟨by kernel_rfl, rfl⟩) (by assumption) ?_
        try simp only [Act.put, List.setIfInBounds_toArray, List.set_cons_zero, List.set_cons_succ]
        refine wpAnyH_takeD (i := 10) (oi := _) (d := 35) (v := undef) rfl (by kernel_rfl) (by kernel_rfl) (by kernel_rfl) (by kernel_rfl) (fun _ _ _ h => h) (Or.inr ⟨by kernel_rfl, rfl⟩) (by assumption) ?_
        try simp only [Act.put, List.setIfInBounds_toArray, List.set_cons_zero, List.set_cons_succ]
        refine wpAnyH_takeD (i := 11) (oi := _) (d := 36) (v := undef) rfl (by kernel_rfl) (by kernel_rfl) (by kernel_rfl) (by kernel_rfl) (fun _ _ _ h => h) (Or.inr ⟨by kernel_rfl, rfl⟩) (by assumption) ?_
        try simp only [Act.put, List.setIfInBounds_toArray, List.set_cons_zero, List.set_cons_succ]
        refine wpAnyH_takeD (i := 12) (oi := _) (d := 37) (v := undef) rfl (by kernel_rfl) (by kernel_rfl) (by kernel_rfl) (by kernel_rfl) (fun _ _ _ h => h) (Or.inr ⟨by kernel_rfl, rfl⟩) (by assumption) ?_
        try simp only [Act.put, List.setIfInBounds_toArray, List.set_cons_zero, List.set_cons_succ]
        refine wpAnyH_takeD (i := 13) (oi := _) (d := 38) (v := undef) rfl (by kernel_rfl) (by kernel_rfl) (by kernel_rfl) (by kernel_rfl) (fun _ _ _ h => h) (Or.inr ⟨by kernel_rfl, rfl⟩) (by assumption) ?_
        try simp only [Act.put, List.setIfInBounds_toArray, List.set_cons_zero, List.set_cons_succ]
        refine wpAnyH_takeD (i := 14) (oi := _) (d := 39) (v := undef) rfl (by kernel_rfl) (by kernel_rfl) (by kernel_rfl) (by kernel_rfl) (fun _ _ _ h => h) (Or.inr ⟨by kernel_rfl, rfl⟩) (by assumption) ?_
        try simp only [Act.put, List.setIfInBounds_toArray, List.set_cons_zero, List.set_cons_succ]
        refine wpAnyH_takeD (i := 15) (oi := _) (d := 40) (v := undef) rfl (by kernel_rfl) (by kernel_rfl) (by kernel_rfl) (by kernel_rfl) (fun _ _ _ h => h) (Or.inr ⟨by kernel_rfl, rfl⟩) (by assumption) ?_
        try simp only [Act.put, List.setIfInBounds_toArray, List.set_cons_zero, List.set_cons_succ]
        refine wpAnyH_takeD (i := 16) (oi := _) (d := 41) (v := undef) rfl (by kernel_rfl) (by kernel_rfl) (by kernel_rfl) (by kernel_rfl) (fun _ _ _ h => h) (Or.inr ⟨by kernel_rfl, rfl⟩) (by assumption) ?_
        try simp only [Act.put, List.setIfInBounds_toArray, List.set_cons_zero, List.set_cons_succ]
        refine wpAnyH_takeD (i := 17) (oi := _) (d := 42) (v := undef) rfl (by kernel_rfl) (by kernel_rfl) (by kernel_rfl) (by kernel_rfl) (fun _ _ _ h => h) (Or.inr ⟨by kernel_rfl, rfl⟩) (by assumption) ?_
        try simp only [Act.put, List.setIfInBounds_toArray, List.set_cons_zero, List.set_cons_succ]
        refine wpAnyH_takeD (i := 18) (oi := _) (d := 43) (v := undef) rfl (by kernel_rfl) (by kernel_rfl) (by kernel_rfl) (by kernel_rfl) (fun _ _ _ h => h) (Or.inr ⟨by kernel_rfl, rfl⟩) (by assumption) ?_
        try simp only [Act.put, List.setIfInBounds_toArray, List.set_cons_zero, List.set_cons_succ]
        refine wpAnyH_takeD (i := 19) (oi := _) (d := 44) (v := undef) rfl (by kernel_rfl) (by kernel_rfl) (by kernel_rfl) (by kernel_rfl) (fun _ _ _ h => h) (Or.inr ⟨by kernel_rfl, rfl⟩) (by assumption) ?_
        try simp only [Act.put, List.setIfInBounds_toArray, List.set_cons_zero, List.set_cons_succ]
        refine wpAnyH_takeD (i := 20) (oi := _) (d := 45) (v := ?vi20) rfl (by kernel_rfl) (by kernel_rfl) (by kernel_rfl) (by kernel_rfl) (fun _ _ _ h => h) (Or.inl ⟨by kernel_rfl, ?yi20⟩) (by assumption) ?ri20
        case yi20 =>
          intro w' hSw
          try dsimp only at hSw
          go_simp
          try with_reducible rfl
        try simp only [Act.put, List.setIfInBounds_toArray, List.set_cons_zero, List.set_cons_succ]
        refine wpAnyH_takeD (i := 21) (oi := _) (d := 46) (v := ?vi21) rfl (by kernel_rfl) (by kernel_rfl) (by kernel_rfl) (by kernel_rfl) (fun _ _ _ h => h) (Or.inl ⟨by kernel_rfl, ?yi21⟩) (by assumption) ?ri21
        case yi21 =>
          intro w' hSw
          try dsimp only at hSw
          go_simp
          try with_reducible rfl
        try simp only [Act.put, List.setIfInBounds_toArray, List.set_cons_zero, List.set_cons_succ]
        refine wpAnyH_takeD (i := 22) (oi := _) (d := 47) (v := undef) rfl (by kernel_rfl) (by kernel_rfl) (by kernel_rfl) (by kernel_rfl) (fun _ _ _ h => h) (Or.inr ⟨by kernel_rfl, rfl⟩) (by assumption) ?_
        try simp only [Act.put, List.setIfInBounds_toArray, List.set_cons_zero, List.set_cons_succ]
        refine wpAnyH_takeD (i := 23) (oi := _) (d := 48) (v := undef) rfl (by kernel_rfl) (by kernel_rfl) (by kernel_rfl) (by kernel_rfl) (fun _ _ _ h => h) (Or.inr ⟨by kernel_rfl, rfl⟩) (by assumption) ?_
        try simp only [Act.put, List.setIfInBounds_toArray, List.set_cons_zero, List.set_cons_succ]
        refine wpAnyH_takeD (i := 24) (oi := _) (d := 49) (v := undef) rfl (by kernel_rfl) (by kernel_rfl) (by kernel_rfl) (by kernel_rfl) (fun _ _ _ h => h) (Or.inr ⟨by kernel_rfl, rfl⟩) (by assumption) ?_
        try simp only [Act.put, List.setIfInBounds_toArray, List.set_cons_zero, List.set_cons_succ]
        refine wpAnyH_takeD (i := 25) (oi := _) (d := 50) (v := undef) rfl (by kernel_rfl) (by kernel_rfl) (by kernel_rfl) (by kernel_rfl) (fun _ _ _ h => h) (Or.inr ⟨by kernel_rfl, rfl⟩) (by assumption) ?_
        try simp only [Act.put, List.setIfInBounds_toArray, List.set_cons_zero, List.set_cons_succ]
        refine wpAnyH_takeD (i := 26) (oi := _) (d := 51) (v := undef) rfl (by kernel_rfl) (by kernel_rfl) (by kernel_rfl) (by kernel_rfl) (fun _ _ _ h => h) (Or.inr ⟨by kernel_rfl, rfl⟩) (by assumption) ?_
        try simp only [Act.put, List.setIfInBounds_toArray, List.set_cons_zero, List.set_cons_succ]
        refine wpAnyH_takeD (i := 27) (oi := _) (d := 52) (v := undef) rfl (by kernel_rfl) (by kernel_rfl) (by kernel_rfl) (by kernel_rfl) (fun _ _ _ h => h) (Or.inr ⟨by kernel_rfl, rfl⟩) (by assumption) ?_
        try simp only [Act.put, List.setIfInBounds_toArray, List.set_cons_zero, List.set_cons_succ]
        refine wpAnyH_takeD (i := 28) (oi := _) (d := 53) (v := undef) rfl (by kernel_rfl) (by kernel_rfl) (by kernel_rfl) (by kernel_rfl) (fun _ _ _ h => h) (Or.inr ⟨by kernel_rfl, rfl⟩) (by assumption) ?_
        try simp only [Act.put, List.setIfInBounds_toArray, List.set_cons_zero, List.set_cons_succ]
        refine wpAnyH_takeD (i := 29) (oi := _) (d := 54) (v := undef) rfl (by kernel_rfl) (by kernel_rfl) (by kernel_rfl) (by kernel_rfl) (fun _ _ _ h => h) (Or.inr ⟨by kernel_rfl, rfl⟩) (by assumption) ?_
        try simp only [Act.put, List.setIfInBounds_toArray, List.set_cons_zero, List.set_cons_succ]
        refine wpAnyH_takeD (i := 30) (oi := _) (d := 55) (v := ?vj30) rfl (by kernel_rfl) (by kernel_rfl) (by kernel_rfl) (by kernel_rfl) (fun _ _ _ h => h) (Or.inl ⟨by kernel_rfl, ?yj30⟩) (by assumption) ?rj30
        case yj30 =>
          intro w' hSw
          try dsimp only at hSw
          go_simp
          try with_reducible rfl
        try simp only [Act.put, List.setIfInBounds_toArray, List.set_cons_zero, List.set_cons_succ]
        refine wpAnyH_done (by kernel_rfl) ?_ _
        have hno := HNo.out (fun hp => by have h2 := Hdp2.out; rw [hp, hopd] at h2; cases h2)
        have hfin := hEnd2.out _ _ _ hno rfl hk3.1
        have Hfin := Lib.hid hfin
        clear hno hfin
        go_wp2_with fail
        go_roundg (left.filter fun q => decide (q.1 ≠ (⟨i, xk, xs⟩ : Cell))).length
        case measure => exact Hmeas.out
        case rel => exact Hfin.out
      · refine wpAnyH_takeD (i := 7) (oi := _) (d := 32) (v := ?vc7) rfl (by kernel_rfl) (by kernel_rfl) (by kernel_rfl) (by kernel_rfl) (fun _ _ _ h => h) (Or.inl ⟨by kernel_rfl, ?yc7⟩) (by assumption) ?rc7
        case yc7 =>
          intro w' hSw
          try dsimp only at hSw
          go_simp
          try with_reducible rfl
        try simp only [Act.put, List.setIfInBounds_toArray, List.set_cons_zero, List.set_cons_succ]
        refine wpAnyH_takeD (i := 8) (oi := _) (d := 33) (v := ?vc8) rfl (by kernel_rfl) (by kernel_rfl) (by kernel_rfl) (by kernel_rfl) (fun _ _ _ h => h) (Or.inl ⟨by kernel_rfl, ?yc8⟩) (by assumption) ?rc8
        case yc8 =>
          intro w' hSw
          try dsimp only at hSw
          go_simp
          try with_reducible rfl
        try simp only [Act.put, List.setIfInBounds_toArray, List.set_cons_zero, List.set_cons_succ]
        refine wpAnyH_takeD (i := 9) (oi := _) (d := 34) (v := ?vc9) rfl (by kernel_rfl) (by kernel_rfl) (by kernel_rfl) (by kernel_rfl) (fun _ _ _ h => h) (Or.inl ⟨by kernel_rfl, ?yc9⟩) (by assumption) ?rc9
        case yc9 =>
          intro w' hSw
          try dsimp only at hSw
          go_simp
          try with_reducible rfl
        try simp only [Act.put, List.setIfInBounds_toArray, List.set_cons_zero, List.set_cons_succ]
        refine wpAnyH_takeD (i := 10) (oi := _) (d := 35) (v := ?vc10) rfl (by kernel_rfl) (by kernel_rfl) (by kernel_rfl) (by kernel_rfl) (fun _ _ _ h => h) (Or.inl ⟨by kernel_rfl, ?yc10⟩) (by assumption) ?rc10
        case yc10 =>
          intro w' hSw
          try dsimp only at hSw
          go_simp
          try with_reducible rfl
        try simp only [Act.put, List.setIfInBounds_toArray, List.set_cons_zero, List.set_cons_succ]
        refine wpAnyH_takeD (i := 11) (oi := _) (d := 36) (v := ?vc11) rfl (by kernel_rfl) (by kernel_rfl) (by kernel_rfl) (by kernel_rfl) (fun _ _ _ h => h) (Or.inl ⟨by kernel_rfl, ?yc11⟩) (by assumption) ?rc11
        case yc11 =>
          intro w' hSw
          try dsimp only at hSw
          go_simp
          try with_reducible rfl
        try simp only [Act.put, List.setIfInBounds_toArray, List.set_cons_zero, List.set_cons_succ]
        refine wpAnyH_takeD (i := 12) (oi := _) (d := 37) (v := ?vc12) rfl (by kernel_rfl) (by kernel_rfl) (by kernel_rfl) (by kernel_rfl) (fun _ _ _ h => h) (Or.inl ⟨by kernel_rfl, ?yc12⟩) (by assumption) ?rc12
        case yc12 =>
          intro w' hSw
          try dsimp only at hSw
          go_simp
          try with_reducible rfl
        try simp only [Act.put, List.setIfInBounds_toArray, List.set_cons_zero, List.set_cons_succ]
        refine wpAnyH_takeD (i := 13) (oi := _) (d := 38) (v := ?vc13) rfl (by kernel_rfl) (by kernel_rfl) (by kernel_rfl) (by kernel_rfl) (fun _ _ _ h => h) (Or.inl ⟨by kernel_rfl, ?yc13⟩) (by assumption) ?rc13
        case yc13 =>
          intro w' hSw
          try dsimp only at hSw
          go_simp
          try with_reducible rfl
        try simp only [Act.put, List.setIfInBounds_toArray, List.set_cons_zero, List.set_cons_succ]
        refine wpAnyH_takeD (i := 14) (oi := _) (d := 39) (v := ?vc14) rfl (by kernel_rfl) (by kernel_rfl) (by kernel_rfl) (by kernel_rfl) (fun _ _ _ h => h) (Or.inl ⟨by kernel_rfl, ?yc14⟩) (by assumption) ?rc14
        case yc14 =>
          intro w' hSw
          try dsimp only at hSw
          go_simp
          try with_reducible rfl
        try simp only [Act.put, List.setIfInBounds_toArray, List.set_cons_zero, List.set_cons_succ]
        refine wpAnyH_takeD (i := 15) (oi := _) (d := 40) (v := ?vc15) rfl (by kernel_rfl) (by kernel_rfl) (by kernel_rfl) (by kernel_rfl) (fun _ _ _ h => h) (Or.inl ⟨by kernel_rfl, ?yc15⟩) (by assumption) ?rc15
        case yc15 =>
          intro w' hSw
          try dsimp only at hSw
          go_simp
          try with_reducible rfl
        try simp only [Act.put, List.setIfInBounds_toArray, List.set_cons_zero, List.set_cons_succ]
        refine wpAnyH_takeD (i := 16) (oi := _) (d := 41) (v := ?vc16) rfl (by kernel_rfl) (by kernel_rfl) (by kernel_rfl) (by kernel_rfl) (fun _ _ _ h => h) (Or.inl ⟨by kernel_rfl, ?yc16⟩) (by assumption) ?rc16
        case yc16 =>
          intro w' hSw
          try dsimp only at hSw
          go_simp
          try with_reducible rfl
        try simp only [Act.put, List.setIfInBounds_toArray, List.set_cons_zero, List.set_cons_succ]
        refine wpAnyH_takeD (i := 17) (oi := _) (d := 42) (v := ?vc17) rfl (by kernel_rfl) (by kernel_rfl) (by kernel_rfl) (by kernel_rfl) (fun _ _ _ h => h) (Or.inl ⟨by kernel_rfl, ?yc17⟩) (by assumption) ?rc17
        case yc17 =>
          intro w' hSw
          try dsimp only at hSw
          go_simp
          try with_reducible rfl
        try simp only [Act.put, List.setIfInBounds_toArray, List.set_cons_zero, List.set_cons_succ]
        refine wpAnyH_takeD (i := 18) (oi := _) (d := 43) (v := ?vc18) rfl (by kernel_rfl) (by kernel_rfl) (by kernel_rfl) (by kernel_rfl) (fun _ _ _ h => h) (Or.inl ⟨by kernel_rfl, ?yc18⟩) (by assumption) ?rc18
        case yc18 =>
          intro w' hSw
          try dsimp only at hSw
          go_simp
          try with_reducible rfl
        try simp only [Act.put, List.setIfInBounds_toArray, List.set_cons_zero, List.set_cons_succ]
        refine wpAnyH_ready (rs := [19]) (by kernel_rfl) (by simp) ?_
        refine AllReadyH.cons (o := _) rfl (fun K hK => ?_) AllReadyH.nil
        go_simp
        go_at_call 47
        refine (hCl _).mono ?_
        rintro e w4 ⟨rfl, hb4⟩
        have hk4 := kp _ (hk3.1.trans (hb4.mono hk3.1.size))
        refine hK.out _ _ hk4 (fun _ => ?_)
        clear hK K
        try simp only [Act.put, List.setIfInBounds_toArray, List.set_cons_zero, List.set_cons_succ]
        refine wpAnyH_takeD (i := 20) (oi := _) (d := 45) (v := ?vd20) rfl (by kernel_rfl) (by kernel_rfl) (by kernel_rfl) (by kernel_rfl) (fun _ _ _ h => h) (Or.inl ⟨by kernel_rfl, ?yd20⟩) (by assumption) ?rd20
        case yd20 =>
          intro w' hSw
          try dsimp only at hSw
          go_simp
          try with_reducible rfl
        try simp only [Act.put, List.setIfInBounds_toArray, List.set_cons_zero, List.set_cons_succ]
        refine wpAnyH_takeD (i := 21) (oi := _) (d := 46) (v := ?vd21) rfl (by kernel_rfl) (by kernel_rfl) (by kernel_rfl) (by kernel_rfl) (fun _ _ _ h => h) (Or.inl ⟨by kernel_rfl, ?yd21⟩) (by assumption) ?rd21
        case yd21 =>
          intro w' hSw
          try dsimp only at hSw
          go_simp
          try with_reducible rfl
        try simp only [Act.put, List.setIfInBounds_toArray, List.set_cons_zero, List.set_cons_succ]
        cases hsh : View.shut ⟨va, vb', vc⟩ xs (leastOf ms)
        · refine wpAnyH_takeD (i := 22) (oi := _) (d := 47) (v := undef) rfl (by kernel_rfl) (by kernel_rfl) (by kernel_rfl) (by kernel_rfl) (fun _ _ _ h => h) (Or.inr ⟨by kernel_rfl, rfl⟩) (by assumption) ?_
          try simp only [Act.put, List.setIfInBounds_toArray, List.set_cons_zero, List.set_cons_succ]
          refine wpAnyH_takeD (i := 23) (oi := _) (d := 48) (v := undef) rfl (by kernel_rfl) (by kernel_rfl) (by kernel_rfl) (by kernel_rfl) (fun _ _ _ h => h) (Or.inr ⟨by kernel_rfl, rfl⟩) (by assumption) ?_
          try simp only [Act.put, List.setIfInBounds_toArray, List.set_cons_zero, List.set_cons_succ]
          refine wpAnyH_takeD (i := 24) (oi := _) (d := 49) (v := undef) rfl (by kernel_rfl) (by kernel_rfl) (by kernel_rfl) (by kernel_rfl) (fun _ _ _ h => h) (Or.inr ⟨by kernel_rfl, rfl⟩) (by assumption) ?_
          try simp only [Act.put, List.setIfInBounds_toArray, List.set_cons_zero, List.set_cons_succ]
          refine wpAnyH_takeD (i := 25) (oi := _) (d := 50) (v := undef) rfl (by kernel_rfl) (by kernel_rfl) (by kernel_rfl) (by kernel_rfl) (fun _ _ _ h => h) (Or.inr ⟨by kernel_rfl, rfl⟩) (by assumption) ?_
          try simp only [Act.put, List.setIfInBounds_toArray, List.set_cons_zero, List.set_cons_succ]
          refine wpAnyH_takeD (i := 26) (oi := _) (d := 51) (v := undef) rfl (by kernel_rfl) (by kernel_rfl) (by kernel_rfl) (by kernel_rfl) (fun _ _ _ h => h) (Or.inr ⟨by kernel_rfl, rfl⟩) (by assumption) ?_
          try simp only [Act.put, List.setIfInBounds_toArray, List.set_cons_zero, List.set_cons_succ]
          refine wpAnyH_takeD (i := 27) (oi := _) (d := 52) (v := undef) rfl (by kernel_rfl) (by kernel_rfl) (by kernel_rfl) (by kernel_rfl) (fun _ _ _ h => h) (Or.inr ⟨by kernel_rfl, rfl⟩) (by assumption) ?_
          try simp only [Act.put, List.setIfInBounds_toArray, List.set_cons_zero, List.set_cons_succ]
          refine wpAnyH_takeD (i := 28) (oi := _) (d := 53) (v := undef) rfl (by kernel_rfl) (by kernel_rfl) (by kernel_rfl) (by kernel_rfl) (fun _ _ _ h => h) (Or.inr ⟨by kernel_rfl, rfl⟩) (by assumption) ?_
          try simp only [Act.put, List.setIfInBounds_toArray, List.set_cons_zero, List.set_cons_succ]
          refine wpAnyH_takeD (i := 29) (oi := _) (d := 54) (v := undef) rfl (by kernel_rfl) (by kernel_rfl) (by kernel_rfl) (by kernel_rfl) (fun _ _ _ h => h) (Or.inr ⟨by kernel_rfl, rfl⟩) (by assumption) ?_
          try simp only [Act.put, List.setIfInBounds_toArray, List.set_cons_zero, List.set_cons_succ]
          refine wpAnyH_takeD (i := 30) (oi := _) (d := 55) (v := ?ve30) rfl (by kernel_rfl) (by kernel_rfl) (by kernel_rfl) (by kernel_rfl) (fun _ _ _ h => h) (Or.inl ⟨by kernel_rfl, ?ye30⟩) (by assumption) ?re30
          case ye30 =>
            intro w' hSw
            try dsimp only at hSw
            go_simp
            try with_reducible rfl
          try simp only [Act.put, List.setIfInBounds_toArray, List.set_cons_zero, List.set_cons_succ]
          refine wpAnyH_done (by kernel_rfl) ?_ _
          have hno := HNo.out (fun hp => by have h2 := Hdp2.out; rw [hp, hopd, hsh] at h2; cases h2)
          have hfin := hEnd2.out _ _ _ hno rfl hk4.1
          have Hfin := Lib.hid hfin
          clear hno hfin
          go_wp2_with fail
          go_roundg (left.filter fun q => decide (q.1 ≠ (⟨i, xk, xs⟩ : Cell))).length
          case measure => exact Hmeas.out
          case rel => exact Hfin.out
        · refine wpAnyH_takeD (i := 22) (oi := _) (d := 47) (v := ?vf22) rfl (by kernel_rfl) (by kernel_rfl) (by kernel_rfl) (by kernel_rfl) (fun _ _ _ h => h) (Or.inl ⟨by kernel_rfl, ?yf22⟩) (by assumption) ?rf22
          case yf22 =>
            intro w' hSw
            try dsimp only at hSw
            go_simp
            try with_reducible rfl
          try simp only [Act.put, List.setIfInBounds_toArray, List.set_cons_zero, List.set_cons_succ]
          refine wpAnyH_takeD (i := 23) (oi := _) (d := 48) (v := ?vf23) rfl (by kernel_rfl) (by kernel_rfl) (by kernel_rfl) (by kernel_rfl) (fun _ _ _ h => h) (Or.inl ⟨by kernel_rfl, ?yf23⟩) (by assumption) ?rf23
          case yf23 =>
            intro w' hSw
            try dsimp only at hSw
            go_simp
            try with_reducible rfl
          try simp only [Act.put, List.setIfInBounds_toArray, List.set_cons_zero, List.set_cons_succ]
          refine wpAnyH_takeD (i := 24) (oi := _) (d := 49) (v := ?vf24) rfl (by kernel_rfl) (by kernel_rfl) (by kernel_rfl) (by kernel_rfl) (fun _ _ _ h => h) (Or.inl ⟨by kernel_rfl, ?yf24⟩) (by assumption) ?rf24
          case yf24 =>
            intro w' hSw
            try dsimp only at hSw
            go_simp
            try with_reducible rfl
          try simp only [Act.put, List.setIfInBounds_toArray, List.set_cons_zero, List.set_cons_succ]
          cases bs
          · refine wpAnyH_takeD (i := 25) (oi := _) (d := 50) (v := undef) rfl (by kernel_rfl) (by kernel_rfl) (by kernel_rfl) (by kernel_rfl) (fun _ _ _ h => h) (Or.inr ⟨by kernel_rfl, rfl⟩) (by assumption) ?_
            try simp only [Act.put, List.setIfInBounds_toArray, List.set_cons_zero, List.set_cons_succ]
            refine wpAnyH_takeD (i := 26) (oi := _) (d := 51) (v := undef) rfl (by kernel_rfl) (by kernel_rfl) (by kernel_rfl) (by kernel_rfl) (fun _ _ _ h => h) (Or.inr ⟨by kernel_rfl, rfl⟩) (by assumption) ?_
            try simp only [Act.put, List.setIfInBounds_toArray, List.set_cons_zero, List.set_cons_succ]
            refine wpAnyH_takeD (i := 27) (oi := _) (d := 52) (v := undef) rfl (by kernel_rfl) (by kernel_rfl) (by kernel_rfl) (by kernel_rfl) (fun _ _ _ h => h) (Or.inr ⟨by kernel_rfl, rfl⟩) (by assumption) ?_
            try simp only [Act.put, List.setIfInBounds_toArray, List.set_cons_zero, List.set_cons_succ]
            refine wpAnyH_takeD (i := 28) (oi := _) (d := 53) (v := undef) rfl (by kernel_rfl) (by kernel_rfl) (by kernel_rfl) (by kernel_rfl) (fun _ _ _ h => h) (Or.inr ⟨by kernel_rfl, rfl⟩) (by assumption) ?_
            try simp only [Act.put, List.setIfInBounds_toArray, List.set_cons_zero, List.set_cons_succ]
            refine wpAnyH_takeD (i := 29) (oi := _) (d := 54) (v := ?vg29) rfl (by kernel_rfl) (by kernel_rfl) (by kernel_rfl) (by kernel_rfl) (fun _ _ _ h => h) (Or.inl ⟨by kernel_rfl, ?yg29⟩) (by assumption) ?rg29
            case yg29 =>
              intro w' hSw
              try dsimp only at hSw
              go_simp
              try with_reducible rfl
            try simp only [Act.put, List.setIfInBounds_toArray, List.set_cons_zero, List.set_cons_succ]
            refine wpAnyH_takeD (i := 30) (oi := _) (d := 55) (v := ?vg30) rfl (by kernel_rfl) (by kernel_rfl) (by kernel_rfl) (by kernel_rfl) (fun _ _ _ h => h) (Or.inl ⟨by kernel_rfl, ?yg30⟩) (by assumption) ?rg30
            case yg30 =>
              intro w' hSw
              try dsimp only at hSw
              go_simp
              try with_reducible rfl
            try simp only [Act.put, List.setIfInBounds_toArray, List.set_cons_zero, List.set_cons_succ]
            refine wpAnyH_done (by kernel_rfl) ?_ _
            have hyes := HYes.out (by rw [Hdp2.out, hopd, hsh]; rfl) (fun h => by cases h)
            have hfin := hEndY2.out _ hyes hk4.1
            have fr := hfz _ hk4.1
            have Hfin := Lib.hid hfin
            clear hyes hfin
            go_wp2_with fail
            go_roundg (left.filter fun q => decide (q.1 ≠ (⟨i, xk, xs⟩ : Cell))).length
            case measure => exact Hmeas.out
            case rel => exact Hfin.out
          · refine wpAnyH_takeD (i := 25) (oi := _) (d := 50) (v := ?vh25) rfl (by kernel_rfl) (by kernel_rfl) (by kernel_rfl) (by kernel_rfl) (fun _ _ _ h => h) (Or.inl ⟨by kernel_rfl, ?yh25⟩) (by assumption) ?rh25
            case yh25 =>
              intro w' hSw
              try dsimp only at hSw
              go_simp
              try with_reducible rfl
            try simp only [Act.put, List.setIfInBounds_toArray, List.set_cons_zero, List.set_cons_succ]
            refine wpAnyH_takeD (i := 26) (oi := _) (d := 51) (v := ?vh26) rfl (by kernel_rfl) (by kernel_rfl) (by kernel_rfl) (by kernel_rfl) (fun _ _ _ h => h) (Or.inl ⟨by kernel_rfl, ?yh26⟩) (by assumption) ?rh26
            case yh26 =>
              intro w' hSw
              try dsimp only at hSw
              go_simp
              try with_reducible rfl
            try simp only [Act.put, List.setIfInBounds_toArray, List.set_cons_zero, List.set_cons_succ]
            refine wpAnyH_ready (rs := [27]) (by kernel_rfl) (by simp) ?_
            refine AllReadyH.cons (o := _) rfl (fun K hK => ?_) AllReadyH.nil
            go_simp
            go_at_call 56
            refine (mcompare_below ⟨i, xk, xs⟩ ⟨bv, bk, bx⟩ _).mono ?_
            rintro e w5 ⟨rfl, hb5⟩
            have hk5 := kp _ (hk4.1.trans (hb5.mono hk4.1.size))
            refine hK.out _ _ hk5 (fun _ => ?_)
            clear hK K
            try simp only [Act.put, List.setIfInBounds_toArray, List.set_cons_zero, List.set_cons_succ]
            refine wpAnyH_takeD (i := 28) (oi := _) (d := 53) (v := ?vh28) rfl (by kernel_rfl) (by kernel_rfl) (by kernel_rfl) (by kernel_rfl) (fun _ _ _ h => h) (Or.inl ⟨by kernel_rfl, ?yh28⟩) (by assumption) ?rh28
            case yh28 =>
              intro w' hSw
              try dsimp only at hSw
              go_simp
              try with_reducible rfl
            try simp only [Act.put, List.setIfInBounds_toArray, List.set_cons_zero, List.set_cons_succ]
            refine wpAnyH_takeD (i := 29) (oi := _) (d := 54) (v := ?vh29) rfl (by kernel_rfl) (by kernel_rfl) (by kernel_rfl) (by kernel_rfl) (fun _ _ _ h => h) (Or.inl ⟨by kernel_rfl, ?yh29⟩) (by assumption) ?rh29
            case yh29 =>
              intro w' hSw
              try dsimp only at hSw
              go_simp
              try with_reducible rfl
            try simp only [Act.put, List.setIfInBounds_toArray, List.set_cons_zero, List.set_cons_succ]
            refine wpAnyH_takeD (i := 30) (oi := _) (d := 55) (v := ?vh30) rfl (by kernel_rfl) (by kernel_rfl) (by kernel_rfl) (by kernel_rfl) (fun _ _ _ h => h) (Or.inl ⟨by kernel_rfl, ?yh30⟩) (by assumption) ?rh30
            case yh30 =>
              intro w' hSw
              try dsimp only at hSw
              go_simp
              try with_reducible rfl
            try simp only [Act.put, List.setIfInBounds_toArray, List.set_cons_zero, List.set_cons_succ]
            refine wpAnyH_done (by kernel_rfl) ?_ _
            generalize hce : ccmp ⟨i, xk, xs⟩ ⟨bv, bk, bx⟩ = cc at *
            by_cases hcc : cc < 0
            · have hcd : decide (cc < 0) = true := by simpa using hcc
              have hyes := HYes.out (by rw [Hdp2.out, hopd, hsh]; rfl) (fun _ => hcc)
              have hfin := hEndY2.out _ hyes hk5.1
              have fr := hfz _ hk5.1
              have Hfin := Lib.hid hfin
              clear hyes hfin
              go_wp2_with fail
              go_roundg (left.filter fun q => decide (q.1 ≠ (⟨i, xk, xs⟩ : Cell))).length
              case measure => exact Hmeas.out
              case rel => exact Hfin.out
            · have hcd : decide (cc < 0) = false := by simpa using hcc
              have hno := HNo.out (fun hp => by have h2 := Hdp2.out; exact ⟨rfl, by omega⟩)
              have hfin := hEnd2.out _ _ _ hno rfl hk5.1
              have Hfin := Lib.hid hfin
              clear hno hfin
              go_wp2_with fail
              go_roundg (left.filter fun q => decide (q.1 ≠ (⟨i, xk, xs⟩ : Cell))).length
              case measure => exact Hmeas.out
              case rel => exact Hfin.out

end Go.Proofs.Ytaicecnfodhlcaa
/- agg.Put: its contract, whole. (put_ok and put_bad stand in wip/oper/XAggC.lean too.) -/
set_option linter.unusedVariables false
set_option linter.unusedSimpArgs false
namespace Go.Proofs.Ytaicecnfodhlcaa
open Go.RowKit Go.Deep

set_option maxHeartbeats 2000000 in
theorem put_ok (y1 y2 y3 y4 c s mn mx v : Int) (w : World) (hm : ∀ W, Calls Try.prog 59 #[aggV c s mn mx, aggV 1 v v v] W fun e w' => e = .returned (.tuple #[aggV y1 y2 y3 y4, .nilIface]) ∧ Below W.heap.size W w') :
    Calls Try.prog 30 #[aggV c s mn mx, .int .i64 v] w fun e w' => e = .returned (.tuple #[aggV y1 y2 y3 y4, .nilIface]) ∧ Below w.heap.size w w' := by
  go_enter Try.func30, Try.ntmps30
  go_wp2_with fail
  refine (hm _).mono ?_
  rintro e w1 ⟨rfl, hb⟩
  simp only [World.size_alloc] at hb ⊢
  have hres : w1.heap[w.heap.size + 1]? = some (.cells #[.int .i64 0, .int .i64 0, .int .i64 0, .int .i64 0] 51 (0, 0)) := (hb.block _ (by omega)).trans (blk_at (by simp))
  have hz1 := hb.size
  simp only [World.size_alloc] at hz1
  have r0 := cell_blk hres 0
  have r1 := cell_blk hres 1
  have r2 := cell_blk hres 2
  have r3 := cell_blk hres 3
  simp at r0 r1 r2 r3
  have rf := frozen_blk hres
  have hbw : Below w.heap.size w w1 := by
    refine Below.trans ?_ (hb.mono (by omega))
    (repeat' (first | exact Below.refl _ _ | assumption | refine Below.drew ?_ | refine Below.setCell ?_ ?_ _ | refine Below.alloc ?_ ?_ _ | (simp; done) | (simp; omega) | omega))
  have HRES := Lib.hid hres
  skip
  have HBW := Lib.hid hbw
  clear hres hb hbw  hm
  go_wp2_with fail
  refine bodyPost_ret (results_cell_tmp rfl _ _ (w.heap.size + 1) 51 #[.int .i64 y1, .int .i64 y2, .int .i64 y3, .int .i64 y4] (0, 0) _ rfl ?_ Try.underlying51 rfl (by kernel_rfl)) rfl ?_
  · exact set_blk (set_blk (set_blk (set_blk HRES.out 0 _) 1 _) 2 _) 3 _
  · refine ⟨rfl, ?_⟩
    · have hbw := HBW.out
      (repeat' (first | exact Below.refl _ _ | assumption | refine Below.drew ?_ | refine Below.setCell ?_ ?_ _ | refine Below.alloc ?_ ?_ _ | (simp; done) | (simp; omega) | omega))

set_option maxHeartbeats 2000000 in
theorem put_bad (c s mn mx v : Int) (p q : Int) (w : World) (hm : ∀ W, Calls Try.prog 59 #[aggV c s mn mx, aggV 1 v v v] W fun e w' => ∃ g, e = .returned (.tuple #[aggV 0 0 0 0, .iface 161 (.pointer (some ⟨g, 0, none⟩))]) ∧ IsOver w' g p q ∧ Below W.heap.size W w') :
    Calls Try.prog 30 #[aggV c s mn mx, .int .i64 v] w fun e w' => ∃ g, e = .returned (.tuple #[aggV 0 0 0 0, .iface 161 (.pointer (some ⟨g, 0, none⟩))]) ∧ IsOver w' g p q ∧ Below w.heap.size w w' := by
  go_enter Try.func30, Try.ntmps30
  go_wp2_with fail
  refine (hm _).mono ?_
  rintro e w1 ⟨g0, rfl, ho, hb⟩
  simp only [World.size_alloc] at ho hb ⊢
  have hres : w1.heap[w.heap.size + 1]? = some (.cells #[.int .i64 0, .int .i64 0, .int .i64 0, .int .i64 0] 51 (0, 0)) := (hb.block _ (by omega)).trans (blk_at (by simp))
  have hz1 := hb.size
  simp only [World.size_alloc] at hz1
  have r0 := cell_blk hres 0
  have r1 := cell_blk hres 1
  have r2 := cell_blk hres 2
  have r3 := cell_blk hres 3
  simp at r0 r1 r2 r3
  have rf := frozen_blk hres
  have hbw : Below w.heap.size w w1 := by
    refine Below.trans ?_ (hb.mono (by omega))
    (repeat' (first | exact Below.refl _ _ | assumption | refine Below.drew ?_ | refine Below.setCell ?_ ?_ _ | refine Below.alloc ?_ ?_ _ | (simp; done) | (simp; omega) | omega))
  have HRES := Lib.hid hres
  have HO := Lib.hid ho
  have hg0 : w.heap.size + 1 ≠ g0 := by
    intro e
    rw [← e] at ho
    unfold IsOver at ho
    rw [hres] at ho
    simp at ho
  have HBW := Lib.hid hbw
  clear hres hb hbw ho hm
  go_wp2_with fail
  refine bodyPost_ret (results_cell_tmp rfl _ _ (w.heap.size + 1) 51 #[.int .i64 0, .int .i64 0, .int .i64 0, .int .i64 0] (0, 0) _ rfl ?_ Try.underlying51 rfl (by kernel_rfl)) rfl ?_
  · exact set_blk (set_blk (set_blk (set_blk HRES.out 0 _) 1 _) 2 _) 3 _
  · refine ⟨_, rfl, ?_, ?_⟩
    · unfold IsOver
      rw [blk_setCell_other, blk_setCell_other, blk_setCell_other, blk_setCell_other]
      · exact HO.out
      all_goals (exact fun e => hg0 e.symm)
    · have hbw := HBW.out
      (repeat' (first | exact Below.refl _ _ | assumption | refine Below.drew ?_ | refine Below.setCell ?_ ?_ _ | refine Below.alloc ?_ ?_ _ | (simp; done) | (simp; omega) | omega))


/-- One value more; none: there is no room. -/
def putA (a : Ag) (v : Int) : Option Ag := if a.c = 0 then some ⟨1, v, v, v⟩ else if fits a.c 1 = true ∧ fits a.s v = true then some ⟨a.c + 1, a.s + v, min a.mn v, max a.mx v⟩ else none
theorem ag_ok {c s mn mx : Int} (h1 : is64 c) (h2 : is64 s) (h3 : is64 mn) (h4 : is64 mx) : Ag.Ok ⟨c, s, mn, mx⟩ := ⟨h1, h2, h3, h4⟩
theorem putA_ok {a b : Ag} {v : Int} (ha : a.Ok) (hv : is64 v) (h : putA a v = some b) : b.Ok := by
  unfold putA at h
  split at h
  · cases h; exact ag_ok (by unfold is64; omega) hv hv hv
  · split at h
    · rename_i h1 h2
      cases h
      have h3 := ha.mn
      have h4 := ha.mx
      have h2a := h2.1
      have h2b := h2.2
      unfold fits at h2a h2b
      unfold is64 at *
      simp only [decide_eq_true_eq] at h2a h2b
      refine ag_ok ?_ ?_ ?_ ?_ <;> (unfold is64; omega)
    · cases h
theorem put_some (a b : Ag) (v : Int) (w : World) (ha : a.Ok) (hv : is64 v) (h : putA a v = some b) :
    Calls Try.prog 30 #[aggV a.c a.s a.mn a.mx, .int .i64 v] w fun e w' => e = .returned (.tuple #[aggV b.c b.s b.mn b.mx, .nilIface]) ∧ Below w.heap.size w w' := by
  refine put_ok b.c b.s b.mn b.mx a.c a.s a.mn a.mx v w fun W => ?_
  unfold putA at h
  split at h
  · rename_i h1
    cases h
    rw [h1]
    exact merge_zero a.s a.mn a.mx v W
  · split at h
    · rename_i h1 h2
      cases h
      exact merge_ok a.c a.s a.mn a.mx v W h1 ha.c ha.s hv h2.1 h2.2
    · cases h
theorem put_none (a : Ag) (v : Int) (w : World) (ha : a.Ok) (hv : is64 v) (h : putA a v = none) :
    Calls Try.prog 30 #[aggV a.c a.s a.mn a.mx, .int .i64 v] w fun e w' => ∃ g, e = .returned (.tuple #[aggV 0 0 0 0, .iface 161 (.pointer (some ⟨g, 0, none⟩))]) ∧ Below w.heap.size w w' := by
  unfold putA at h
  split at h
  · cases h
  · rename_i h1
    split at h
    · cases h
    · rename_i h2
      by_cases hf : fits a.c 1 = true
      · refine (put_bad a.c a.s a.mn a.mx v _ _ w fun W => merge_bad2 a.c a.s a.mn a.mx v W h1 ha.c ha.s hv hf (fun h3 => h2 ⟨hf, h3⟩)).mono ?_
        rintro e w' ⟨g, he, _, hb⟩
        exact ⟨g, he, hb⟩
      · refine (put_bad a.c a.s a.mn a.mx v _ _ w fun W => merge_bad1 a.c a.s a.mn a.mx v W h1 ha.c hf).mono ?_
        rintro e w' ⟨g, he, _, hb⟩
        exact ⟨g, he, hb⟩
/-- What Put tells: the sum (none where there is no room), and whether it is told with an error. -/
theorem mput_any (a : Ag) (v : Int) (w : World) (ha : a.Ok) (hv : is64 v) :
    Calls Try.prog 30 #[aggV a.c a.s a.mn a.mx, .int .i64 v] w fun e w' => ∃ (b : Ag) (err : Value), e = .returned (.tuple #[aggV b.c b.s b.mn b.mx, err]) ∧ ((putA a v = some b ∧ err = .nilIface) ∨ (putA a v = none ∧ ∃ g, err = .iface 161 (.pointer (some ⟨g, 0, none⟩)))) ∧ Below w.heap.size w w' := by
  cases h : putA a v with
  | none =>
    refine (put_none a v w ha hv h).mono ?_
    rintro e w' ⟨g, he, hb⟩
    exact ⟨⟨0, 0, 0, 0⟩, _, he, .inr ⟨rfl, g, rfl⟩, hb⟩
  | some b =>
    refine (put_some a b v w ha hv h).mono ?_
    rintro e w' ⟨he, hb⟩
    exact ⟨b, _, he, .inl ⟨rfl, rfl⟩, hb⟩
end Go.Proofs.Ytaicecnfodhlcaa
