/- The contract of an operator's Mark. -/
import Derived.Test.YtheimbhnckaonaaWrote
set_option linter.unusedVariables false
set_option linter.unusedSimpArgs false
namespace Go.Proofs.Ytheimbhnckaonaa
open Go.RowKit

theorem Chg.grown {l : List Nat} {a b c : World} {row : Option Nat} (h : Chg l a b) (hg : b.grownBy c row) (hr : ∀ k, row = some k → a.heap.size ≤ k ∨ k ∈ l) : Chg l a c :=
  ⟨hg.os.trans h.os, hg.tape.trans h.tape, hg.output.trans h.output, Nat.le_trans h.size hg.size, fun i hi hl =>
    (hg.block i (Nat.lt_of_lt_of_le hi h.size) (fun e => by rcases hr i e.symm with h1 | h1; omega; exact hl h1)).trans (h.block i hi hl)⟩
theorem Chg.alloc {l : List Nat} {a b : World} (h : Chg l a b) (o : Obj) : Chg l a (b.alloc o) := h.grown (World.grownBy_alloc b o none) (fun k hk => by cases hk)
theorem Chg.thenB {l : List Nat} {a b c : World} (h : Chg l a b) (k : Below b.heap.size b c) : Chg l a c := h.trans ((Chg.of_below k).mono (by simp))

/-- A cell's window is closed. -/
def shutC (O : Op14) (c : Cell) : Bool := (O.vs.getD c.v.toNat default).shut c.s (leastOf O.ms)

/-- The marks turned, all else as it was. -/
theorem IsOper.marked {w w' : World} {b : OpB} {O : Op14} {ms : List Int} (h : IsOper w b O) (hm : IsMarks w' b.bm b.bl ms) (hc : Chg [b.bl] w w') : IsOper w' b { O with ms := ms } := by
  obtain ⟨m, hm0, hp⟩ := h.live
  obtain ⟨es, clock, hes, _⟩ := hm0.blk
  obtain ⟨c1, hc1, _⟩ := h.marks.row
  have hlt := h.lt
  have hnp : b.bp ≠ b.bl := fun e => by have := h.obj; rw [e, hc1] at this; cases this
  have hnr : b.br ≠ b.bl := fun e => by rw [e, hc1] at hes; cases hes
  refine ⟨?_, hm, ?_, h.vlo, h.vhi, h.vok, ?_, ⟨m, hm0.keep (hc.block _ hlt.2.2.2 (by simpa using hnr)), hp⟩, h.rise, h.may⟩
  · rw [hc.block _ hlt.1 (by simpa using hnp)]; exact h.obj
  · exact h.views.keep hc.size fun g off e hl => hc.block g hl (by simpa using (h.vne g off none e).1)
  · intro g off sp e
    have := h.vne g off sp e
    exact ⟨this.1, this.2.1, Nat.lt_of_lt_of_le this.2.2 hc.size⟩

theorem mDel_keys {m : List (Cell × Value)} {A R : List Cell} {c : Cell} (h : (m.map (·.1)).Perm (A ++ c :: R)) (hn : (A ++ c :: R).Nodup) : ((mDel m c).map (·.1)).Perm (A ++ R) := by
  have e1 : (mDel m c).map (·.1) = (m.map (·.1)).filter fun d => decide (d ≠ c) := by
    unfold mDel
    rw [List.filter_map]
    rfl
  have e2 : (A ++ c :: R).filter (fun d => decide (d ≠ c)) = A ++ R := by
    rw [List.nodup_append] at hn
    obtain ⟨h1, h2, h3⟩ := hn
    rw [List.filter_append, List.filter_cons_of_neg (by simp)]
    congr 1
    · rw [List.filter_eq_self]
      intro d hd
      simp
      exact h3 d hd c (by simp)
    · rw [List.filter_eq_self]
      intro d hd
      simp
      rintro rfl
      exact (List.nodup_cons.1 h2).1 hd
  rw [e1, ← e2]
  exact h.filter _

/-- A cell gone from the map, all else as it was. -/
theorem IsOper.gone {w w' : World} {b : OpB} {O : Op14} {A R : List Cell} {c : Cell} (h : IsOper w b O) (hl : O.live = A ++ c :: R) {m : List (Cell × Value)} (hp : (m.map (·.1)).Perm O.live) (hm' : MapIs cellV w' b.br (mDel m c)) (hg : w.grownBy w' (some b.br)) :
    IsOper w' b { O with live := A ++ R } := by
  obtain ⟨m0, hm0, _⟩ := h.live
  obtain ⟨es, clock, hes, _⟩ := hm0.blk
  have hlt := h.lt
  have hne : ∀ g o, w.heap[g]? = some o → (∀ es c, o ≠ .map es c) → some g ≠ some b.br := by
    intro g o hg ho e
    cases e
    rw [hes] at hg
    cases hg
    exact ho _ _ rfl
  obtain ⟨c1, hc1, _⟩ := h.marks.row
  have hr := h.rise
  rw [hl] at hr hp
  refine ⟨?_, ?_, ?_, h.vlo, h.vhi, h.vok, ?_, ⟨_, hm', mDel_keys hp hr.nodup⟩, ?_, ?_⟩
  · rw [hg.block _ hlt.1 (hne _ _ h.obj (fun _ _ e => by cases e))]; exact h.obj
  · exact h.marks.keep (hg.block _ hlt.2.1 (hne _ _ h.marks.obj (fun _ _ e => by cases e))) (hg.block _ hlt.2.2.1 (hne _ _ hc1 (fun _ _ e => by cases e)))
  · exact h.views.keep hg.size fun g off e hl => hg.block g hl (fun e2 => (h.vne g off none e).2.1 (by cases e2; rfl))
  · intro g off sp e
    have := h.vne g off sp e
    exact ⟨this.1, this.2.1, Nat.lt_of_lt_of_le this.2.2 hg.size⟩
  · exact List.Pairwise.sublist (List.Sublist.append_left (List.sublist_cons_self _ _) _) hr
  · intro d hd
    apply h.may
    rw [hl]
    rcases List.mem_append.1 hd with hd | hd
    · exact List.mem_append_left _ hd
    · exact List.mem_append_right _ (List.mem_cons_of_mem _ hd)

theorem mark_src (b : OpB) (O : Op14) (s t : Int) (w : World) (h : IsOper w b O) (hs : s < 0 ∨ O.ms.length ≤ s) :
    Calls Try.prog 30 #[.pointer (some ⟨b.bp, 0, none⟩), .int .i64 s, .int .i64 t] w fun e w' => e = .returned (.tuple #[.slice none 0 0, .int .i64 1]) ∧ w = w' := by
  obtain ⟨c0, c1, c2, c3, c4⟩ := h.cells
  have hr := fun W hW => rise_src b.bm b.bl O.ms s t W hW hs
  have Hm := Lib.hid h.marks
  clear h hs
  go_enter Try.func30, Try.ntmps30
  go_wp2_with (go_at_call 48; refine (hr _ Hm.out).mono ?_; rintro e w' ⟨rfl, rfl⟩)
  go_ret2
  exact ⟨rfl, rfl⟩
theorem mark_time (b : OpB) (O : Op14) (s t : Int) (w : World) (h : IsOper w b O) (hs : 0 ≤ s) (hs2 : s < O.ms.length) (ht : t < -1152921504606846976 ∨ 1152921504606846976 < t) :
    Calls Try.prog 30 #[.pointer (some ⟨b.bp, 0, none⟩), .int .i64 s, .int .i64 t] w fun e w' => e = .returned (.tuple #[.slice none 0 0, .int .i64 22]) ∧ w = w' := by
  obtain ⟨c0, c1, c2, c3, c4⟩ := h.cells
  have hr := fun W hW => rise_time b.bm b.bl O.ms s t W hW hs hs2 ht
  have Hm := Lib.hid h.marks
  clear h hs
  go_enter Try.func30, Try.ntmps30
  go_wp2_with (go_at_call 48; refine (hr _ Hm.out).mono ?_; rintro e w' ⟨rfl, rfl⟩)
  go_ret2
  exact ⟨rfl, rfl⟩

/-- The operator behind a mark. -/
def Op14.marked (O : Op14) (s t : Int) : Op14 := { O with ms := O.ms.set s.toNat (max (O.ms.getD s.toNat 0) t) }

theorem IsOper.belowN {N : Nat} {w w' : World} {b : OpB} {O : Op14} (h : IsOper w b O) (k : Below N w w') (hl : b.bp < N ∧ b.bm < N ∧ b.bl < N ∧ b.br < N) (hv : ∀ g off sp, b.av = some ⟨g, off, sp⟩ → g < N) : IsOper w' b O :=
  h.keep k.size (k.block _ (by omega)) (k.block _ (by omega)) (k.block _ (by omega)) (k.block _ (by omega)) (fun g off sp e => k.block _ (hv g off sp e))

theorem filter_snoc {L : List Cell} {j : Nat} (hj : j < L.length) (f : Cell → Bool) : (L.take (j + 1)).filter f = (L.take j).filter f ++ (if f L[j] = true then [L[j]] else []) := by
  rw [List.take_succ_eq_append_getElem hj, List.filter_append]
  congr 1
  by_cases h : f L[j] = true <;> simp [h]

set_option maxRecDepth 100000 in
set_option maxHeartbeats 4000000 in
theorem mark_ok (b : OpB) (O : Op14) (s t : Int) (w : World) (h : IsOper w b O) (hs : 0 ≤ s) (hs2 : s < O.ms.length) (ht : -1152921504606846976 ≤ t) (ht2 : t ≤ 1152921504606846976) (hmax : O.live.length ≤ 100000000) :
    Calls Try.prog 30 #[.pointer (some ⟨b.bp, 0, none⟩), .int .i64 s, .int .i64 t] w fun e w' => ∃ v, e = .returned (.tuple #[v, .int .i64 0]) ∧ Own 51 3 cellL w.heap.size w' v ((O.marked s t).live.filter (shutC (O.marked s t))) ∧ IsOper w' b { O.marked s t with live := (O.marked s t).live.filter fun c => !shutC (O.marked s t) c } ∧ Chg [b.bl, b.br] w w' := by
  obtain ⟨c0, c1, c2, c3, c4⟩ := h.cells
  have hr := fun W hW => rise_ok b.bm b.bl O.ms s t W hW hs hs2 ht ht2
  have hmk := fun W hm hc => IsOper.marked (w' := W) (ms := (O.marked s t).ms) h hm hc
  have hmax1 : (O.marked s t).live.length ≤ 100000000 := hmax
  change ∀ W, _ → _ → IsOper W b (O.marked s t) at hmk
  change ∀ W, _ → Calls _ _ _ _ fun e w' => _ ∧ IsMarks w' b.bm b.bl (O.marked s t).ms ∧ _ at hr
  have Hm := Lib.hid h.marks
  have hlt := h.lt
  clear h hs hs2 ht ht2 hmax
  generalize O.marked s t = O1 at *
  go_enter Try.func30, Try.ntmps30
  go_wp2_with (go_at_call 48; refine (hr _ Hm.out).mono ?_; rintro e w1 ⟨rfl, hm1, hch1⟩)
  have hop1 := hmk _ hm1 hch1
  clear hm1 hmk hr
  refine (live_any b O1 _ hop1 hmax1).mono ?_
  rintro e w2 ⟨v2, rfl, hown2, hb2⟩
  obtain ⟨o, cap, rfl, hcap, hsl2, hov, hun⟩ := hown2.sl fun _ => rfl
  have hop2 := hop1.below hb2
  have hch2 : Chg [b.bl, b.br] w w2 := (hch1.mono (by simp)).thenB hb2
  clear c0 c1 c2 c3 c4 hch1 hop1 hb2 hown2
  have hs12 := hch2.size
  clear Hm
  have hbr := hop2.lt.2.2.2
  obtain ⟨vs, ms, L⟩ := O1
  change L.length ≤ 100000000 at hmax1
  go_wp2_with fail
  go_loopg [10, 12, 29] L.length (fun g v10 _ i wr => ∃ j : Nat, j + g = L.length ∧ i = .int .i64 j ∧ Own 51 3 cellL w2.heap.size wr v10 ((L.take j).filter (shutC ⟨vs, ms, L⟩)) ∧ IsOper wr b ⟨vs, ms, ((L.take j).filter fun c => !shutC ⟨vs, ms, L⟩ c) ++ L.drop j⟩ ∧ Chg [b.br] w2 wr)
  case atStart => exact ⟨0, by omega, rfl, Own.nil _ _ _ _ _, by simpa using hop2, Chg.refl _ _⟩
  case round =>
    obtain ⟨j, hj, rfl, hown, hop, hch⟩ := hrel
    have Hj := Lib.hid hj
    have Hown := Lib.hid hown
    have Hop := Lib.hid hop
    have Hch := Lib.hid hch
    clear hj hown hop hch
    by_cases hlt : j < L.length
    · obtain ⟨ob, oo, rfl, hob, h0, h1, h2⟩ := hsl2.at3 hlt rfl
      obtain ⟨m0, hm0, hp0⟩ := Hop.out.live
      obtain ⟨es, clock, hes, _⟩ := hop2.live.choose_spec.1.blk
      have hne : ob ≠ b.br := hsl2.ne_obj hlt (by simp) hes (fun _ _ _ e => by cases e)
      have hsz := Hch.out.size
      have d0 := (World.cell?_of_block (a := ⟨ob, oo + j * 3, none⟩) (Hch.out.block ob hob (by simpa using hne))).trans h0
      have d1 := (World.cell?_of_block (a := ⟨ob, oo + j * 3 + 1, none⟩) (Hch.out.block ob hob (by simpa using hne))).trans h1
      have d2 := (World.cell?_of_block (a := ⟨ob, oo + j * 3 + 2, none⟩) (Hch.out.block ob hob (by simpa using hne))).trans h2
      obtain ⟨i, hi, hci, hck, hs1, hs2, _⟩ : cellOk vs L[j] := hop2.may _ (List.getElem_mem hlt)
      obtain ⟨vb, vo, hav, hvb, g0, g1, g2⟩ := Hop.out.views.at3 hi rfl
      obtain ⟨c0, c1, c2, c3, c4⟩ := Hop.out.cells
      have hvok : View.ok vs[i] = true := hop2.vok _ (List.getElem_mem hi)
      have hltp := Hop.out.lt
      have hsh : shutC ⟨vs, ms, L⟩ L[j] = View.shut ⟨vs[i].size, vs[i].slide, vs[i].late⟩ L[j].s (leastOf ms) := by
        unfold shutC
        simp [hci, hi]
      have hcl := fun W => closed_any vs[i].size vs[i].slide vs[i].late L[j].s (leastOf ms) W hvok (by omega) (by omega)
      rw [← hsh] at hcl
      have hf1 := filter_snoc hlt (shutC ⟨vs, ms, L⟩)
      have hf2 := filter_snoc hlt (fun c => !shutC ⟨vs, ms, L⟩ c)
      have hdr := List.drop_eq_getElem_cons hlt
      have hle := fun W hW => operLeast_any b ⟨vs, ms, ((L.take j).filter fun c => !shutC ⟨vs, ms, L⟩ c) ++ L.drop j⟩ W hW
      have hln : (L.take (j+1)).length ≤ L.length := by simp; omega
      have hlgone : ((L.take j).filter (shutC ⟨vs, ms, L⟩)).length ≤ 100000000 := Nat.le_trans (List.length_filter_le _ _) (by simp; omega)
      have hsd : shutC ⟨vs, ms, L⟩ L[j] = true ∨ shutC ⟨vs, ms, L⟩ L[j] = false := by cases shutC ⟨vs, ms, L⟩ L[j] <;> simp
      have Hf1 := Lib.hid hf1
      have Hf2 := Lib.hid hf2
      have Hdr := Lib.hid hdr
      have Hsd := Lib.hid hsd
      clear hf1 hf2 hdr hsd
      generalize shutC ⟨vs, ms, L⟩ L[j] = q at *
      generalize L[j] = c at *
      generalize vs[i] = vw at *
      obtain ⟨x, y, z⟩ := c
      obtain ⟨vx, vy, vz⟩ := vw
      have hci' : x = ((i : Nat) : Int) := hci
      subst hci'
      dsimp only at d0 d1 d2 hck hs1 hs2 hcl g0 g1 g2
      clear hci hsh hes hvok h0 h1 h2
      have kp : ∀ w', Below (wr.heap.size + 1) (wr.alloc (.cells #[.int .i64 i, .string y, .int .i64 z] 51)) w' → (Below (wr.heap.size + 1) (wr.alloc (.cells #[.int .i64 i, .string y, .int .i64 z] 51)) w' ∧ w'.cell? ⟨b.bp, 0, none⟩ = some (.slice b.av vs.length b.vcap) ∧
          w'.cell? ⟨vb, vo + i * 3, none⟩ = some (.int .i64 vx) ∧ w'.cell? ⟨vb, vo + i * 3 + 1, none⟩ = some (.int .i64 vy) ∧ w'.cell? ⟨vb, vo + i * 3 + 2, none⟩ = some (.int .i64 vz) ∧
          w'.cell? ⟨wr.heap.size, 0, none⟩ = some (.int .i64 i) ∧ w'.cell? ⟨wr.heap.size, 1, none⟩ = some (.string y) ∧ w'.cell? ⟨wr.heap.size, 2, none⟩ = some (.int .i64 z)) := by
        intro w' hb
        have hold : ∀ p : Addr, p.block < wr.heap.size → w'.cell? p = wr.cell? p := fun p hp => (hb.cell (by omega)).trans (World.cell?_of_block (blk_old hp))
        refine ⟨hb, (hold ⟨b.bp, _, none⟩ hltp.1).trans c0, (hold ⟨vb, _, none⟩ hvb).trans g0, (hold ⟨vb, _, none⟩ hvb).trans g1, (hold ⟨vb, _, none⟩ hvb).trans g2, ?_, ?_, ?_⟩ <;> (rw [hb.cell (by simp)]; go_simp)
      have hopA : ∀ w', Below (wr.heap.size + 1) (wr.alloc (.cells #[.int .i64 i, .string y, .int .i64 z] 51)) w' → IsOper w' b ⟨vs, ms, ((L.take j).filter fun c => !shutC ⟨vs, ms, L⟩ c) ++ L.drop j⟩ := by
        intro w' hb
        exact Hop.out.below (((Below.refl _ _).alloc (Nat.le_refl _) _).trans (hb.mono (by omega)))
      have hk0 := kp _ (Below.refl _ _)
      clear c0 c1 c2 c3 c4 g0 g1 g2
      go_wp2_with fail
      go_region_held3 (fun w' => Below (wr.heap.size + 1) (wr.alloc (.cells #[.int .i64 i, .string y, .int .i64 z] 51)) w' ∧ w'.cell? ⟨b.bp, 0, none⟩ = some (.slice b.av vs.length b.vcap) ∧
          w'.cell? ⟨vb, vo + i * 3, none⟩ = some (.int .i64 vx) ∧ w'.cell? ⟨vb, vo + i * 3 + 1, none⟩ = some (.int .i64 vy) ∧ w'.cell? ⟨vb, vo + i * 3 + 2, none⟩ = some (.int .i64 vz) ∧
          w'.cell? ⟨wr.heap.size, 0, none⟩ = some (.int .i64 i) ∧ w'.cell? ⟨wr.heap.size, 1, none⟩ = some (.string y) ∧ w'.cell? ⟨wr.heap.size, 2, none⟩ = some (.int .i64 z)) (first | exact kp _ (Below.refl _ _).drew | assumption)
        (first | (go_at_call 23; refine (hle _ (hopA _ (And.left (by assumption)))).mono ?_; rintro e w' ⟨rfl, rfl⟩) | (go_at_call 27; refine (hcl _).mono ?_; rintro e w4 ⟨rfl, hb4⟩; have hk4 := kp _ (Below.trans (And.left (by assumption)) (hb4.mono (by simp)))))
      have hop4 := hopA _ hk4.1
      have hb4' : Below wr.heap.size wr w4 := ((Below.refl _ _).alloc (Nat.le_refl _) _).trans (hk4.1.mono (by omega))
      have hown4 := Hown.out.below hb4'
      have hch4 : Chg [b.br] w2 w4 := Hch.out.thenB (hb4'.mono (by omega))
      have Hop4 := Lib.hid hop4
      have Hown4 := Lib.hid hown4
      have Hch4 := Lib.hid hch4
      clear hop4 hown4 hch4 hopA kp hle hcl
      rcases Hsd.out with hq | hq
      · subst hq
        obtain ⟨on, ocap, rfl, hocap, _, hov4, hun4⟩ := Hown4.out.sl fun _ => rfl
        have hz4 := hb4'.size
        obtain ⟨hk4b, _, _, _, _, e5, e6, e7⟩ := hk4
        have hz41 : wr.heap.size < w4.heap.size := by have := hk4b.size; simp at this; omega
        have hown5 := Hown4.out.alloc (.cells #[.int .i64 i, .string y, .int .i64 z] 51)
        have Hown5 := Lib.hid hown5
        clear hown5
        go_wp2_with (at_builtin; (refine wpList_app st_cell rfl _ _ rfl cellL (fun _ => rfl) cells1_cell w2.heap.size _ ((L.take j).filter (shutC ⟨vs, ms, L⟩)) rfl Hown5.out (some ⟨w4.heap.size, 0, none⟩) 1 1 [⟨i, y, z⟩] rfl rfl ?c1 ?c2 ?c3 ?c4 ?_))
        case c1 => have h9 := sl_new (sz := 3) (enc := cellL) (⟨i, y, z⟩ : Cell) w4 51 (cs := #[.int .i64 i, .string y, .int .i64 z]) rfl; simpa using h9
        case c2 => first | omega | (simp; omega)
        case c4 => first | omega | (simp; omega)
        intro v' w5 hown6 hgr _
        have hov' : ∀ k, (Value.slice on ((L.take j).filter (shutC ⟨vs, ms, L⟩)).length ocap).ownBlock = some k → w2.heap.size ≤ k := fun k hk => (Hown5.out.ge hk).1
        have hopb := Hop4.out.below ((Below.refl _ _).alloc (Nat.le_refl _) (.cells #[.int .i64 i, .string y, .int .i64 z] 51))
        have hop5 := hopb.belowN (N := w2.heap.size) ((Below.refl w2.heap.size (w4.alloc (.cells #[.int .i64 i, .string y, .int .i64 z] 51))).grown hgr (by simp; omega) (fun k hk => hov' k hk)) hop2.lt (fun g off sp e => (hop2.vne g off sp e).2.2)
        have hch5 : Chg [b.br] w2 w5 := (Hch4.out.alloc _).grown hgr (fun k hk => Or.inl (hov' k hk))
        have hz5 := hgr.size
        have f0 : ∀ off, w5.cell? ⟨wr.heap.size, off, none⟩ = w4.cell? ⟨wr.heap.size, off, none⟩ := by
          intro off
          exact (World.cell?_of_block (a := ⟨wr.heap.size, off, none⟩) (hgr.block wr.heap.size (by simp; omega) (fun e => Nat.lt_irrefl _ (Hown.out.ge e.symm).2))).trans (World.cell?_of_block (a := ⟨wr.heap.size, off, none⟩) (blk_old hz41))
        have e5' := (f0 0).trans e5
        have e6' := (f0 1).trans e6
        have e7' := (f0 2).trans e7
        obtain ⟨_, _, k2, _⟩ := hop5.cells
        have hopd := hop5.below (Below.refl _ _).drew
        obtain ⟨m, hm, hp⟩ := hopd.live
        obtain ⟨w6, hrun, hm6, hg6, hs6⟩ := MapIs.delete (P := Try.prog) (t := 90) (kt := 51) keyCell Try.underlying90 hm ⟨i, y, z⟩ 0
        have Hdl := Hdr.out
        rw [Hdl] at hopd hp
        have hop6 := hopd.gone rfl hp hm6 hg6
        have hrun' : (Builtin.delete_ #[90, 51] 0 #[.map (some b.br), .agg #[.int .i64 i, .string y, .int .i64 z]]).run Try.prog w5.drew = .ok (.tuple #[]) w6 := hrun
        have Hop6 := Lib.hid hop6
        have Hg6 := Lib.hid hg6
        have Hm := Lib.hid hm
        have Hown6 := Lib.hid hown6
        clear hrun hop6 hg6 hm hopd hp hm6 hs6 Hown5 Hown4 Hown hop5 hopb
        go_wp2_with fail
        go_region
        go_wp2_with fail
        go_roundg (gk - 1)
        case measure => have := Hj.out; omega
        case rel =>
          refine ⟨j + 1, by have := Hj.out; omega, by go_num, ?_, ?_, ?_⟩
          · rw [Hf1.out]
            have h8 := (Hown6.out.below (Below.refl _ _).drew).keep (w' := w6) fun g hg hlt => Hg6.out.block g hlt (fun e => by have := (Hown6.out.ge hg).1; cases e; omega)
            simpa using h8
          · rw [Hf2.out]; simpa using Hop6.out
          · exact (hch5.trans ((Chg.of_below ((Below.refl _ _).drew)).mono (by simp))).trans (Chg.of_grown Hg6.out)
      · subst hq
        go_wp2_with fail
        go_roundg (gk - 1)
        case measure => have := Hj.out; omega
        case rel =>
          refine ⟨j + 1, by have := Hj.out; omega, by go_num, ?_, ?_, Hch4.out⟩
          · rw [Hf1.out]; simpa using Hown4.out
          · rw [Hf2.out]
            have h9 := Hop4.out
            rw [Hdr.out] at h9
            simpa using h9
    · have hjl : j = L.length := by have := Hj.out; omega
      have hown := Hown.out
      have hop := Hop.out
      rw [hjl, List.take_length] at hown hop
      rw [List.drop_length, List.append_nil] at hop
      have Hown3 := Lib.hid hown
      have Hop3 := Lib.hid hop
      clear hown hop hjl Hj Hown Hop
      go_wp2_with fail
      go_ret2
      exact ⟨_, rfl, Own.mono (B := w2.heap.size) (B' := w.heap.size) Hown3.out (by omega), Hop3.out, hch2.trans (Hch.out.mono (by simp))⟩
end Go.Proofs.Ytheimbhnckaonaa
