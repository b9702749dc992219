/- The contract of an operator's Wrote. -/
import Derived.Test.YtheimbhnckaonaaMay
set_option linter.unusedVariables false
set_option linter.unusedSimpArgs false
namespace Go.Proofs.Ytheimbhnckaonaa
open Go.RowKit

theorem may_any (b : OpB) (O : Op14) (cv : Int) (ck : ByteArray) (cs : Int) (w : World) (h : IsOper w b O) :
    Calls Try.prog 58 #[.pointer (some ⟨b.bp, 0, none⟩), .agg #[.int .i64 cv, .string ck, .int .i64 cs]] w fun e w' => e = .returned (.int .i64 (mayE O ⟨cv, ck, cs⟩)) ∧ Below w.heap.size w w' := by
  by_cases hv : cv < 0 ∨ O.vs.length ≤ cv
  · rw [show mayE O ⟨cv, ck, cs⟩ = 23 from by unfold mayE; rw [if_pos hv]]
    exact may_view b O cv ck cs w h hv
  · obtain ⟨i, rfl⟩ := Int.eq_ofNat_of_zero_le (by omega : 0 ≤ cv)
    exact may_in b O i ck cs w h (by omega)

theorem mayE_ok {O : Op14} {c : Cell} (h : mayE O c = 0) : cellOk O.vs c ∧ ∃ (i : Nat) (hi : i < O.vs.length), c.v = i ∧ O.vs[i].shut c.s (leastOf O.ms) = false := by
  unfold mayE at h
  split at h
  · omega
  · rename_i h1
    split at h
    · omega
    · rename_i h2
      split at h
      · omega
      · rename_i h3
        split at h
        · omega
        · rename_i h4
          split at h
          · omega
          · rename_i h5
            have hi : c.v.toNat < O.vs.length := by omega
            rw [List.getD_eq_getElem?_getD, List.getElem?_eq_getElem hi] at h4 h5
            simp only [Option.getD_some] at h4 h5
            exact ⟨⟨c.v.toNat, hi, by omega, by simpa using h2, by omega, by omega, by simpa using h4⟩, c.v.toNat, hi, by omega, by simpa using h5⟩

/-- The error of the first cell that has one. -/
def wroteE (O : Op14) : List Cell → Int
  | [] => 0
  | c :: r => if mayE O c = 0 then wroteE O r else mayE O c
def ins1 (L : List Cell) (c : Cell) : List Cell := if c ∈ L then L else sortC (c :: L)
def insL (L cs : List Cell) : List Cell := cs.foldl ins1 L
theorem mem_ins1 {L : List Cell} {c x : Cell} : x ∈ ins1 L c ↔ x = c ∨ x ∈ L := by
  unfold ins1
  split
  · constructor
    · intro h; exact .inr h
    · rintro (rfl | h)
      · assumption
      · exact h
  · rw [(sortC_perm _).mem_iff]; simp
theorem rise_ins1 {L : List Cell} (h : Rise L) (c : Cell) : Rise (ins1 L c) := by
  unfold ins1
  split
  · exact h
  · rename_i hc
    exact sortC_rise (List.nodup_cons.2 ⟨hc, h.nodup⟩)
theorem mem_insL {cs L : List Cell} {x : Cell} : x ∈ insL L cs ↔ x ∈ cs ∨ x ∈ L := by
  induction cs generalizing L with
  | nil => simp [insL]
  | cons c r ih =>
    rw [show insL L (c :: r) = insL (ins1 L c) r from rfl, ih, mem_ins1]
    simp
    constructor
    · rintro (h | h | h)
      · exact .inl (.inr h)
      · exact .inl (.inl h)
      · exact .inr h
    · rintro ((h | h) | h)
      · exact .inr (.inl h)
      · exact .inl h
      · exact .inr (.inr h)
theorem rise_insL {cs L : List Cell} (h : Rise L) : Rise (insL L cs) := by
  induction cs generalizing L with
  | nil => exact h
  | cons c r ih => exact ih (rise_ins1 h c)
theorem insL_snoc (L cs : List Cell) (c : Cell) : insL L (cs ++ [c]) = ins1 (insL L cs) c := by simp [insL, List.foldl_append]
theorem wroteE_ok {O : Op14} : ∀ {cs : List Cell}, wroteE O cs = 0 → ∀ c ∈ cs, mayE O c = 0
  | [], _, c, hc => by simp at hc
  | d :: r, h, c, hc => by
    unfold wroteE at h
    split at h
    · rename_i h1
      rcases List.mem_cons.1 hc with rfl | h2
      · exact h1
      · exact wroteE_ok h c h2
    · rename_i h1; exact absurd h h1
theorem wroteE_first {O : Op14} {cs : List Cell} {j : Nat} (h : ∀ i (hi : i < cs.length), i < j → mayE O cs[i] = 0) (hj : j < cs.length) (hne : mayE O cs[j] ≠ 0) : wroteE O cs = mayE O cs[j] := by
  induction cs generalizing j with
  | nil => simp at hj
  | cons d r ih =>
    unfold wroteE
    cases j with
    | zero =>
      simp only [List.getElem_cons_zero] at hne ⊢
      rw [if_neg hne]
    | succ j =>
      rw [if_pos (by have := h 0 (by simp) (by omega); simpa using this)]
      exact ih (fun i hi hij => by have := h (i + 1) (by simpa using hi) (by omega); simpa using this) (by simpa using hj) (by simpa using hne)
theorem wroteE_none {O : Op14} : ∀ {cs : List Cell}, (∀ c ∈ cs, mayE O c = 0) → wroteE O cs = 0
  | [], _ => rfl
  | d :: r, h => by
    unfold wroteE
    rw [if_pos (h d (by simp))]
    exact wroteE_none fun c hc => h c (by simp [hc])

/-- A row of cells is no map. -/
theorem Sl.ne_obj {α : Type} {sz : Nat} {enc : α → List Value} {w : World} {b off : Nat} {xs : List α} {r : Nat} {o : Obj} (h : Sl sz enc w (some ⟨b, off, none⟩) xs) {i : Nat} (hi : i < xs.length) (he : enc xs[i] ≠ []) (hr : w.heap[r]? = some o) (ho : ∀ c t f, o ≠ .cells c t f) : b ≠ r := by
  rintro rfl
  obtain ⟨b', off', e, _, hc⟩ := h i hi
  cases e
  obtain ⟨u, l, hu⟩ := List.exists_cons_of_ne_nil he
  have := hc 0 u (by rw [hu]; rfl)
  rw [World.cell?, hr] at this
  cases o with
  | cells c t f => exact ho c t f rfl
  | _ => simp at this

set_option maxHeartbeats 1000000 in
theorem wrote_bad (b : OpB) (O : Op14) (a : Option Addr) (cap : Nat) (cs : List Cell) (w : World) (h : IsOper w b O) (hs : Sl 3 cellL w a cs) (hl : cs.length ≤ 1000000000) (he : wroteE O cs ≠ 0) :
    Calls Try.prog 33 #[.pointer (some ⟨b.bp, 0, none⟩), .slice a cs.length cap] w fun e w' => e = .returned (.int .i64 (wroteE O cs)) ∧ Below w.heap.size w w' := by
  have hmay := fun x y z W hW => may_any b O x y z W hW
  have H := Lib.hid h
  clear h
  go_enter Try.func33, Try.ntmps33
  go_wp2_with fail
  go_loopg [6, 7, 12] cs.length (fun g _ _ i wr => ∃ j : Nat, j + g = cs.length ∧ i = .int .i64 j ∧ (∀ i (hi : i < cs.length), i < j → mayE O cs[i] = 0) ∧ Below w.heap.size w wr)
  case atStart => exact ⟨0, by omega, rfl, fun i _ h => absurd h (Nat.not_lt_zero _), Below.refl _ _⟩
  case round =>
    obtain ⟨j, hj, rfl, hall, hb⟩ := hrel
    have Hj := Lib.hid hj
    have Hall := Lib.hid hall
    clear hj hall
    by_cases hlt : j < cs.length
    · obtain ⟨ob, oo, rfl, hob, h0, h1, h2⟩ := hs.at3 hlt rfl
      have d0 := (hb.cell (p := ⟨ob, _, none⟩) hob).trans h0
      have d1 := (hb.cell (p := ⟨ob, _, none⟩) hob).trans h1
      have d2 := (hb.cell (p := ⟨ob, _, none⟩) hob).trans h2
      clear h0 h1 h2
      have hE : mayE O ⟨cs[j].v, cs[j].k, cs[j].s⟩ = mayE O cs[j] := rfl
      have hmj := fun W hW => hmay cs[j].v cs[j].k cs[j].s W hW
      rw [hE] at hmj
      by_cases hz : mayE O cs[j] = 0
      · rw [hz] at hmj
        have Hz := Lib.hid hz
        clear hz hE hmay
        generalize cs[j].v = x at *
        generalize cs[j].k = y at *
        generalize cs[j].s = z at *
        go_wp2_with fail
        refine (hmj _ (H.out.below (hb.alloc hb.size _))).mono ?_
        rintro e w1 ⟨rfl, hb1⟩
        go_wp2_with fail
        go_roundg (gk - 1)
        case measure => have := Hj.out; omega
        case rel =>
          refine ⟨j + 1, by have := Hj.out; omega, by go_num, fun i hi hij => ?_, (hb.alloc hb.size _).trans (hb1.mono (by have := hb.size; simp; omega))⟩
          by_cases e : i = j
          · subst e; exact Hz.out
          · exact Hall.out i hi (by omega)
      · have hw := wroteE_first Hall.out hlt hz
        have Hw := Lib.hid hw
        have hz2 : (mayE O cs[j] != 0) = true := by simpa using hz
        clear hw hz hE hmay
        generalize mayE O cs[j] = r at *
        generalize cs[j].v = x at *
        generalize cs[j].k = y at *
        generalize cs[j].s = z at *
        go_wp2_with fail
        refine (hmj _ (H.out.below (hb.alloc hb.size _))).mono ?_
        rintro e w1 ⟨rfl, hb1⟩
        go_wp2_with fail
        go_ret
        exact ⟨by rw [Hw.out]; rfl, (hb.alloc hb.size _).trans (hb1.mono (by have := hb.size; simp; omega))⟩
    · exfalso
      apply he
      refine wroteE_none fun c hc => ?_
      obtain ⟨i, hi, rfl⟩ := List.getElem_of_mem hc
      exact Hall.out i hi (by have := Hj.out; omega)

theorem mPut_keys {m : List (Cell × Value)} {L : List Cell} (h : (m.map (·.1)).Perm L) (c : Cell) (x : Value) : ((mPut m c x).map (·.1)).Perm (ins1 L c) := by
  unfold mPut ins1
  by_cases hc : c ∈ m.map (·.1)
  · rw [if_pos hc, if_pos (h.mem_iff.1 hc), List.map_map]
    have : ((fun x => x.1) ∘ fun p : Cell × Value => if p.1 = c then (c, x) else p) = fun p => p.1 := by
      funext p; simp only [Function.comp]; split <;> simp_all
    rw [this]; exact h
  · rw [if_neg hc, if_neg (fun e => hc (h.mem_iff.2 e)), List.map_append]
    refine List.Perm.trans ?_ (sortC_perm _).symm
    simp only [List.map_cons, List.map_nil]
    exact (List.perm_append_singleton _ _).trans (h.cons c)

/-- The map of live cells turned, all else as it was. -/
theorem IsOper.put {w w' : World} {b : OpB} {O : Op14} {c : Cell} (h : IsOper w b O) (hc : cellOk O.vs c) {m : List (Cell × Value)} {x : Value} (hp : (m.map (·.1)).Perm O.live) (hm' : MapIs cellV w' b.br (mPut m c x)) (hg : w.grownBy w' (some b.br)) :
    IsOper w' b { O with live := ins1 O.live c } := by
  obtain ⟨m0, hm0, _⟩ := h.live
  obtain ⟨es, clock, hes, _⟩ := hm0.blk
  have hlt := h.lt
  have hne : ∀ g o, w.heap[g]? = some o → (∀ es c, o ≠ .map es c) → some g ≠ some b.br := by
    intro g o hg ho e
    cases e
    rw [hes] at hg
    cases hg
    exact ho _ _ rfl
  obtain ⟨c1, hc1, _⟩ := h.marks.row
  refine ⟨?_, ?_, ?_, h.vlo, h.vhi, h.vok, ?_, ⟨_, hm', mPut_keys hp c x⟩, rise_ins1 h.rise c, ?_⟩
  · rw [hg.block _ hlt.1 (hne _ _ h.obj (fun _ _ e => by cases e))]; exact h.obj
  · exact h.marks.keep (hg.block _ hlt.2.1 (hne _ _ h.marks.obj (fun _ _ e => by cases e))) (hg.block _ hlt.2.2.1 (hne _ _ hc1 (fun _ _ e => by cases e)))
  · exact h.views.keep hg.size fun g off e hl => hg.block g hl (fun e2 => (h.vne g off none e).2.1 (by cases e2; rfl))
  · intro g off sp e
    have := h.vne g off sp e
    exact ⟨this.1, this.2.1, Nat.lt_of_lt_of_le this.2.2 hg.size⟩
  · intro d hd
    rcases mem_ins1.1 hd with rfl | hd
    · exact hc
    · exact h.may d hd

set_option maxHeartbeats 2000000 in
theorem wrote_ok (b : OpB) (O : Op14) (a : Option Addr) (cap : Nat) (cs : List Cell) (w : World) (h : IsOper w b O) (hs : Sl 3 cellL w a cs) (hl : cs.length ≤ 1000000000) (he : wroteE O cs = 0) :
    Calls Try.prog 33 #[.pointer (some ⟨b.bp, 0, none⟩), .slice a cs.length cap] w fun e w' => e = .returned (.int .i64 0) ∧ IsOper w' b { O with live := insL O.live cs } ∧ Chg [b.br] w w' := by
  have hmay := fun x y z W hW => may_any b O x y z W hW
  have hz0 := wroteE_ok he
  have H := Lib.hid h
  clear h
  go_enter Try.func33, Try.ntmps33
  go_wp2_with fail
  go_loopg [6, 7, 12] cs.length (fun g _ _ i wr => ∃ j : Nat, j + g = cs.length ∧ i = .int .i64 j ∧ Below w.heap.size w wr)
  case atStart => exact ⟨0, by omega, rfl, Below.refl _ _⟩
  case round =>
    obtain ⟨j, hj, rfl, hb⟩ := hrel
    have Hj := Lib.hid hj
    clear hj
    by_cases hlt : j < cs.length
    · obtain ⟨ob, oo, rfl, hob, h0, h1, h2⟩ := hs.at3 hlt rfl
      have d0 := (hb.cell (p := ⟨ob, _, none⟩) hob).trans h0
      have d1 := (hb.cell (p := ⟨ob, _, none⟩) hob).trans h1
      have d2 := (hb.cell (p := ⟨ob, _, none⟩) hob).trans h2
      clear h0 h1 h2
      have hmj := fun W hW => hmay cs[j].v cs[j].k cs[j].s W hW
      have hz := hz0 cs[j] (List.getElem_mem _)
      rw [show mayE O ⟨cs[j].v, cs[j].k, cs[j].s⟩ = mayE O cs[j] from rfl, hz] at hmj
      clear hz hmay
      generalize cs[j].v = x at *
      generalize cs[j].k = y at *
      generalize cs[j].s = z at *
      go_wp2_with fail
      refine (hmj _ (H.out.below (hb.alloc hb.size _))).mono ?_
      rintro e w1 ⟨rfl, hb1⟩
      go_wp2_with fail
      go_roundg (gk - 1)
      case measure => have := Hj.out; omega
      case rel => exact ⟨j + 1, by have := Hj.out; omega, by go_num, (hb.alloc hb.size _).trans (hb1.mono (by have := hb.size; simp; omega))⟩
    · have hjl : j = cs.length := by have := Hj.out; omega
      have HJ := Lib.hid hjl
      have hop := H.out.below hb
      have Hop := Lib.hid hop
      clear hjl hop hmay
      go_wp2_with fail
      go_loopg [9, 25] cs.length (fun g _ i w2 => ∃ q : Nat, q + g = cs.length ∧ i = .int .i64 q ∧ IsOper w2 b { O with live := insL O.live (cs.take q) } ∧ Chg [b.br] wr w2)
      case atStart => exact ⟨0, by omega, rfl, Hop.out, Chg.refl _ _⟩
      case round =>
        obtain ⟨q, hq, rfl, hop2, hch⟩ := hrel
        have Hq := Lib.hid hq
        have Hop2 := Lib.hid hop2
        have Hch := Lib.hid hch
        clear hq hop2 hch
        by_cases hlq : q < cs.length
        · obtain ⟨ob, oo, rfl, hob, h0, h1, h2⟩ := hs.at3 hlq rfl
          obtain ⟨m0, hm0, _⟩ := H.out.live
          obtain ⟨es, clock, hes, _⟩ := hm0.blk
          have hne : ob ≠ b.br := hs.ne_obj hlq (by simp) hes (fun _ _ _ e => by cases e)
          have hob2 := hb.size
          have d0 := (World.cell?_of_block (a := ⟨ob, oo + q * 3, none⟩) (Hch.out.block ob (by omega) (by simpa using hne))).trans ((hb.cell (p := ⟨ob, _, none⟩) hob).trans h0)
          have d1 := (World.cell?_of_block (a := ⟨ob, oo + q * 3 + 1, none⟩) (Hch.out.block ob (by omega) (by simpa using hne))).trans ((hb.cell (p := ⟨ob, _, none⟩) hob).trans h1)
          have d2 := (World.cell?_of_block (a := ⟨ob, oo + q * 3 + 2, none⟩) (Hch.out.block ob (by omega) (by simpa using hne))).trans ((hb.cell (p := ⟨ob, _, none⟩) hob).trans h2)
          have hck := (mayE_ok (hz0 cs[q] (List.getElem_mem _))).1
          have hsn : insL O.live (cs.take (q + 1)) = ins1 (insL O.live (cs.take q)) cs[q] := by
            rw [List.take_succ_eq_append_getElem hlq, insL_snoc]
          rw [show cs[q] = ⟨cs[q].v, cs[q].k, cs[q].s⟩ from rfl] at hck hsn
          have Hsn := Lib.hid hsn
          clear h0 h1 h2 hsn hm0
          generalize cs[q].v = x at *
          generalize cs[q].k = y at *
          generalize cs[q].s = z at *
          have hopA := Hop2.out.below (((Below.refl wr.heap.size wr).alloc (Nat.le_refl _) (.cells #[.int .i64 x, .string y, .int .i64 z] 51)).drew)
          obtain ⟨c0, _, c2, _⟩ := Hop2.out.cells
          obtain ⟨m, hm, hp⟩ := hopA.live
          obtain ⟨w3, hrun, hm3, hg3, hs3⟩ := MapIs.update keyCell Try.underlying90 hm ⟨x, y, z⟩ (.bool true)
          have hrun' : (Instr.mapUpdate 90 (.map (some b.br)) (.agg #[.int .i64 x, .string y, .int .i64 z]) (.bool true)).run Try.prog ((wr.alloc (.cells #[.int .i64 x, .string y, .int .i64 z] 51)).drew) = .ok () w3 := hrun
          have hop3 := hopA.put hck hp hm3 hg3
          have Hop3 := Lib.hid hop3
          have Hg3 := Lib.hid hg3
          have Hm := Lib.hid hm
          have hltp := Hop2.out.lt.1
          clear hopA hm hp hm3 hg3 hs3 hop3 hrun hck
          go_wp2_with fail
          go_region
          go_wp2_with fail
          go_roundg (gk - 1)
          case measure => have := Hq.out; omega
          case rel =>
            refine ⟨q + 1, by have := Hq.out; omega, by go_num, ?_, ?_⟩
            · rw [Hsn.out]; exact Hop3.out
            · refine Hch.out.trans (Chg.trans ?_ (Chg.of_grown Hg3.out))
              exact (Chg.of_below (((Below.refl wr.heap.size wr).alloc (Nat.le_refl _) _).drew)).mono (by simp)
        · have hql : q = cs.length := by have := Hq.out; omega
          have hop4 := Hop2.out
          rw [hql, List.take_length] at hop4
          have Hop4 := Lib.hid hop4
          clear hop4 hql
          go_wp2_with fail
          go_ret
          exact ⟨rfl, Hop4.out, (Chg.of_below hb).mono (by simp) |>.trans Hch.out⟩
end Go.Proofs.Ytheimbhnckaonaa
