/- The contract of mark's Open. -/
import Derived.Test.YtaicecnfodhlcaaOrder
set_option linter.unusedVariables false
set_option linter.unusedSimpArgs false
namespace Go.Proofs.Ytaicecnfodhlcaa
open Go.RowKit

/-- The open cells of a time in view i. -/
def viewCells (vs : List View) (t m : Int) (i : Nat) : List Cell := ((vs.getD i default).opens t m).map fun s => ⟨i, ByteArray.empty, s⟩
/-- The open cells of a time in the first k views, and how many windows it has in them. -/
def openN (vs : List View) (t m : Int) (k : Nat) : List Cell := (List.range k).flatMap (viewCells vs t m)
def winN (vs : List View) (t : Int) (k : Nat) : Nat := ((List.range k).map fun i => ((vs.getD i default).starts t).length).sum
theorem openN_succ (vs : List View) (t m : Int) (k : Nat) : openN vs t m (k + 1) = openN vs t m k ++ viewCells vs t m k := by
  simp [openN, List.range_succ]
theorem winN_succ (vs : List View) (t : Int) (k : Nat) : winN vs t (k + 1) = winN vs t k + ((vs.getD k default).starts t).length := by
  simp [winN, List.range_succ]
theorem opens_le {v : View} (hv : v.ok = true) (t m : Int) : (v.opens t m).length ≤ 64 :=
  Nat.le_trans (List.length_filter_le _ _) (by rw [starts_length]; exact cnt_le hv t)
theorem openN_le {vs : List View} (hv : ∀ v ∈ vs, v.ok = true) (t m : Int) : ∀ k, k ≤ vs.length → (openN vs t m k).length ≤ 64 * k
  | 0, _ => by simp [openN]
  | k + 1, hk => by
    rw [openN_succ, List.length_append]
    have h1 := openN_le hv t m k (by omega)
    have h2 : (viewCells vs t m k).length ≤ 64 := by
      unfold viewCells
      rw [List.length_map, List.getD_eq_getElem?_getD, List.getElem?_eq_getElem (by omega)]
      exact opens_le (hv _ (List.getElem_mem _)) t m
    omega
theorem winN_le {vs : List View} (hv : ∀ v ∈ vs, v.ok = true) (t : Int) : ∀ k, k ≤ vs.length → winN vs t k ≤ 64 * k
  | 0, _ => by simp [winN]
  | k + 1, hk => by
    rw [winN_succ]
    have h1 := winN_le hv t k (by omega)
    have h2 : ((vs.getD k default).starts t).length ≤ 64 := by
      rw [List.getD_eq_getElem?_getD, List.getElem?_eq_getElem (by omega), starts_length]
      exact cnt_le (hv _ (List.getElem_mem _)) t
    omega

/-- What Open answers. -/
def openCells (vs : List View) (t m : Int) : List Cell := openN vs t m vs.length
def isLate (vs : List View) (t m : Int) : Bool := decide (0 < winN vs t vs.length) && (openCells vs t m).isEmpty

set_option maxHeartbeats 1000000 in
theorem openTime_any (bm bl : Nat) (ms : List Int) (t : Int) (a : Option Addr) (cap : Nat) (vs : List View) (w : World) (hm : IsMarks w bm bl ms) (hs : Sl 3 viewL w a vs) (hv : ∀ v ∈ vs, v.ok = true) (hl : vs.length ≤ 4) (ht : t < -1152921504606846976 ∨ 1152921504606846976 < t) :
    Calls Try.prog 21 #[.pointer (some ⟨bm, 0, none⟩), .int .i64 t, .slice a vs.length cap] w fun e w' => e = .returned (.tuple #[.slice none 0 0, .bool false, .int .i64 22]) ∧ Below w.heap.size w w' := by
  go_enter Try.func21, Try.ntmps21
  go_wp2_with fail
  go_loopg [10, 11, 28] vs.length (fun g _ _ i wr => ∃ k : Nat, k + g = vs.length ∧ i = .int .i64 k ∧ Below w.heap.size w wr)
  case atStart => exact ⟨0, by omega, rfl, Below.refl _ _⟩
  case round =>
    obtain ⟨k, hk, rfl, hb⟩ := hrel
    have Hk := Lib.hid hk
    clear hk
    by_cases hlt : k < vs.length
    · obtain ⟨ob, oo, rfl, hob, h0, h1, h2⟩ := hs.at3 hlt rfl
      have d0 := (hb.cell (p := ⟨ob, _, none⟩) hob).trans h0
      have d1 := (hb.cell (p := ⟨ob, _, none⟩) hob).trans h1
      have d2 := (hb.cell (p := ⟨ob, _, none⟩) hob).trans h2
      clear h0 h1 h2
      have hok := hv vs[k] (List.getElem_mem _)
      have hchk : View.chk ⟨vs[k].size, vs[k].slide, vs[k].late⟩ = 0 := by
        rw [show (⟨vs[k].size, vs[k].slide, vs[k].late⟩ : View) = vs[k] from rfl]; simp [View.chk, hok]
      generalize vs[k].size = x at *
      generalize vs[k].slide = y at *
      generalize vs[k].late = z at *
      go_wp2_with fail
      refine (check_any _ _ _ _).mono ?_
      rw [hchk]
      rintro e w1 ⟨rfl, hb1⟩
      go_wp2_with fail
      go_roundg (gk - 1)
      case measure => have := Hk.out; omega
      case rel => exact ⟨k + 1, by have := Hk.out; omega, by go_num, (hb.alloc hb.size _).trans (hb1.mono (by have := hb.size; simp; omega))⟩
    · have h' : k = vs.length := by have := Hk.out; omega
      have H' := Lib.hid h'
      clear h'
      rcases ht with ht | ht
      · go_wp2_with fail
        go_ret3
        exact ⟨rfl, hb⟩
      · have ht' : ¬ t < -1152921504606846976 := by omega
        go_wp2_with fail
        go_ret3
        exact ⟨rfl, hb⟩

/-- One cell more in a row of room. -/
theorem set_fill {done : List Cell} {ops : List Int} {f : Int → Cell} {j p : Nat} (hp : p = done.length + j) (hj : j < ops.length) (h : p < 260) :
    done ++ (ops.take (j + 1)).map f ++ List.replicate (260 - (p + 1)) default = (done ++ (ops.take j).map f ++ List.replicate (260 - p) default).set p (f ops[j]) := by
  have hl : (done ++ (ops.take j).map f).length = p := by simp; omega
  rw [List.set_append_right _ _ (by omega), hl, Nat.sub_self, show 260 - p = (260 - (p + 1)) + 1 from by omega, List.replicate_succ, List.set_cons_zero, List.take_succ_eq_append_getElem hj, List.map_append, List.map_cons, List.map_nil]
  simp only [List.append_assoc, List.cons_append, List.nil_append]

set_option maxRecDepth 100000 in
set_option maxHeartbeats 2000000 in
theorem openCells_any (bm bl : Nat) (ms : List Int) (t : Int) (a : Option Addr) (cap : Nat) (vs : List View) (w : World) (hm : IsMarks w bm bl ms) (hs : Sl 3 viewL w a vs) (hv : ∀ v ∈ vs, v.ok = true) (hl : vs.length ≤ 4) (ht : -1152921504606846976 ≤ t) (ht2 : t ≤ 1152921504606846976) :
    Calls Try.prog 21 #[.pointer (some ⟨bm, 0, none⟩), .int .i64 t, .slice a vs.length cap] w fun e w' => ∃ v, e = .returned (.tuple #[v, .bool (isLate vs t (leastOf ms)), .int .i64 0]) ∧ Own 46 3 cellL w.heap.size w' v (openCells vs t (leastOf ms)) ∧ Below w.heap.size w w' := by
  have hmk := make_own sz_cell (fun _ => rfl) 260 (by decide) (by decide)
  go_enter Try.func21, Try.ntmps21
  go_wp2_with fail
  go_loopg [10, 11, 28] vs.length (fun g _ _ i wr => ∃ k : Nat, k + g = vs.length ∧ i = .int .i64 k ∧ Below w.heap.size w wr)
  case atStart => exact ⟨0, by omega, rfl, Below.refl _ _⟩
  case round =>
    obtain ⟨k, hk, rfl, hb⟩ := hrel
    have Hk := Lib.hid hk
    clear hk
    by_cases hlt : k < vs.length
    · obtain ⟨ob, oo, rfl, hob, h0, h1, h2⟩ := hs.at3 hlt rfl
      have d0 := (hb.cell (p := ⟨ob, _, none⟩) hob).trans h0
      have d1 := (hb.cell (p := ⟨ob, _, none⟩) hob).trans h1
      have d2 := (hb.cell (p := ⟨ob, _, none⟩) hob).trans h2
      clear h0 h1 h2
      have hok := hv vs[k] (List.getElem_mem _)
      have hchk : View.chk ⟨vs[k].size, vs[k].slide, vs[k].late⟩ = 0 := by
        rw [show (⟨vs[k].size, vs[k].slide, vs[k].late⟩ : View) = vs[k] from rfl]; simp [View.chk, hok]
      generalize vs[k].size = x at *
      generalize vs[k].slide = y at *
      generalize vs[k].late = z at *
      go_wp2_with fail
      refine (check_any _ _ _ _).mono ?_
      rw [hchk]
      rintro e w1 ⟨rfl, hb1⟩
      go_wp2_with fail
      go_roundg (gk - 1)
      case measure => have := Hk.out; omega
      case rel => exact ⟨k + 1, by have := Hk.out; omega, by go_num, (hb.alloc hb.size _).trans (hb1.mono (by have := hb.size; simp; omega))⟩
    · have h' : k = vs.length := by have := Hk.out; omega
      have H' := Lib.hid h'
      clear h'
      obtain ⟨o, hrun, hown⟩ := hmk wr
      have hrun' : (Instr.makeSlice 44 (.int .i64 260) (.int .i64 260)).run Try.prog wr = .ok (.slice (some ⟨wr.heap.size, 0, none⟩) 260 260) (wr.alloc o) := hrun
      clear hrun hmk
      go_wp2_with fail
      clear hrun'
      have hG : wr.heap.size < (wr.alloc o).heap.size := by simp
      have hbo : Below w.heap.size w (wr.alloc o) := hb.alloc hb.size _
      have hbs := hb.size
      generalize wr.alloc o = wo at *
      generalize wr.heap.size = G at *
      clear hb
      go_loopg [13, 14, 47] vs.length (fun g n wn i w2 => ∃ q : Nat, q + g = vs.length ∧ i = .int .i64 q ∧ n = .int .i64 (openN vs t (leastOf ms) q).length ∧ wn = .int .i64 (winN vs t q) ∧ Own 46 3 cellL G w2 (.slice (some ⟨G, 0, none⟩) 260 260) (openN vs t (leastOf ms) q ++ List.replicate (260 - (openN vs t (leastOf ms) q).length) default) ∧ G < w2.heap.size ∧ Below w.heap.size w w2)
      case atStart => exact ⟨0, by omega, rfl, rfl, rfl, hown, hG, hbo⟩
      case round =>
        obtain ⟨q, hq, rfl, rfl, rfl, hown2, hG2, hb2⟩ := hrel
        have Hq := Lib.hid hq
        have Hown2 := Lib.hid hown2
        clear hq hown hown2 hbo hG
        by_cases hlt : q < vs.length
        · obtain ⟨ob, oo, rfl, hob, h0, h1, h2⟩ := hs.at3 hlt rfl
          have d0 := (hb2.cell (p := ⟨ob, _, none⟩) hob).trans h0
          have d1 := (hb2.cell (p := ⟨ob, _, none⟩) hob).trans h1
          have d2 := (hb2.cell (p := ⟨ob, _, none⟩) hob).trans h2
          clear h0 h1 h2
          have hok := hv vs[q] (List.getElem_mem _)
          have hL := openN_le hv t (leastOf ms) q (by omega)
          have hW := winN_le hv t q (by omega)
          have hsc := openN_succ vs t (leastOf ms) q
          have hws := winN_succ vs t q
          have hvc : viewCells vs t (leastOf ms) q = (View.opens ⟨vs[q].size, vs[q].slide, vs[q].late⟩ t (leastOf ms)).map fun s => ⟨q, ByteArray.empty, s⟩ := by
            unfold viewCells; rw [List.getD_eq_getElem?_getD, List.getElem?_eq_getElem hlt]; rfl
          have hvg : vs.getD q default = ⟨vs[q].size, vs[q].slide, vs[q].late⟩ := by rw [List.getD_eq_getElem?_getD, List.getElem?_eq_getElem hlt]; rfl
          rw [hvc] at hsc
          rw [hvg] at hws
          have hok' : View.ok ⟨vs[q].size, vs[q].slide, vs[q].late⟩ = true := hok
          clear hvc hvg hok
          generalize vs[q].size = x at *
          generalize vs[q].slide = y at *
          generalize vs[q].late = z at *
          have hst := fun W => starts_any x y z t W hok' ht ht2
          have hop := fun W => open_any x y z t (leastOf ms) W hok' ht ht2
          have hle := fun W hW => marksLeast_any bm bl ms W hW
          have hsl := starts_length ⟨x, y, z⟩ t
          have hcl := cnt_le hok' t
          have hol := opens_le hok' t (leastOf ms)
          rw [← hsl] at hcl
          clear hsl
          generalize View.starts ⟨x, y, z⟩ t = sts at *
          generalize View.opens ⟨x, y, z⟩ t (leastOf ms) = ops at *
          generalize openN vs t (leastOf ms) q = done at *
          generalize winN vs t q = won at *
          have Hsc := Lib.hid hsc
          have Hws := Lib.hid hws
          clear hsc hws
          go_wp2_with fail
          refine (hst _).mono ?_
          rintro e w3 ⟨v3, rfl, hown3, hb3⟩
          obtain ⟨o3, cap3, rfl, hcap3, hsl3, hov3, hun3⟩ := hown3.sl fun _ => rfl
          clear hown3
          go_wp2_with fail
          have hz3 : wr.heap.size + 1 ≤ w3.heap.size := by have := hb3.size; simp at this; omega
          have hm3 : ∀ w', Below w3.heap.size w3 w' → IsMarks w' bm bl ms := by
            intro w' hb'
            have hall : Below w.heap.size w w' := (hb2.alloc hb2.size _).trans ((hb3.mono (by have := hb2.size; simp; omega)).trans (hb'.mono (by have := hb2.size; omega)))
            exact hm.keep (hall.block _ hm.lt.1) (hall.block _ hm.lt.2)
          have kp : ∀ w', Below w3.heap.size w3 w' → (Below w3.heap.size w3 w' ∧ w'.cell? ⟨wr.heap.size, 0, none⟩ = some (.int .i64 x) ∧ w'.cell? ⟨wr.heap.size, 1, none⟩ = some (.int .i64 y) ∧ w'.cell? ⟨wr.heap.size, 2, none⟩ = some (.int .i64 z)) := by
            intro w' h
            refine ⟨h, ?_, ?_, ?_⟩ <;> (rw [h.cell (by simp; omega), hb3.cell (by simp)]; go_simp)
          go_region_held3 (fun w' => Below w3.heap.size w3 w' ∧ w'.cell? ⟨wr.heap.size, 0, none⟩ = some (.int .i64 x) ∧ w'.cell? ⟨wr.heap.size, 1, none⟩ = some (.int .i64 y) ∧ w'.cell? ⟨wr.heap.size, 2, none⟩ = some (.int .i64 z)) (first | exact kp _ (Below.refl _ _).drew | assumption)
            (first | (go_at_call 24; refine (hle _ (hm3 _ (Below.refl _ _).drew)).mono ?_; rintro e w' ⟨rfl, rfl⟩) | (go_at_call 53; refine (hop _).mono ?_; rintro e w4 ⟨v4, rfl, hown4, hb4⟩; have hk4 := kp _ ((Below.refl _ _).drew.trans hb4)))
          obtain ⟨o4, cap4, rfl, hcap4, hsl4, hov4, hun4⟩ := hown4.sl fun _ => rfl
          clear hown4 kp hm3 hle hst hop
          have hownW : Own 46 3 cellL G w4 (.slice (some ⟨G, 0, none⟩) 260 260) (done ++ List.replicate (260 - done.length) default) :=
            Hown2.out.keep fun g hg hlt' => by
              rw [hk4.1.block _ (by omega), hb3.block _ (by simp; omega), blk_old hlt']
          have hz4 : w3.heap.size ≤ w4.heap.size := hk4.1.size
          have HownW := Lib.hid hownW
          clear hownW
          go_wp2_with fail
          go_loopg [13, 22, 72] ops.length (fun g n _ i w5 => ∃ j p : Nat, j + g = ops.length ∧ p = done.length + j ∧ i = .int .i64 j ∧ n = .int .i64 p ∧ Own 46 3 cellL G w5 (.slice (some ⟨G, 0, none⟩) 260 260) (done ++ ((ops.take j).map fun s => (⟨q, ByteArray.empty, s⟩ : Cell)) ++ List.replicate (260 - p) default) ∧ Chg [G] w4 w5)
          case atStart => exact ⟨0, done.length, by omega, rfl, rfl, rfl, by simpa using HownW.out, Chg.refl _ _⟩
          case round =>
            obtain ⟨j, p, hj, hp, rfl, rfl, hown5, hch⟩ := hrel
            have Hj := Lib.hid hj
            have Hp := Lib.hid hp
            have Hown5 := Lib.hid hown5
            have hp' : p < 260 ∨ ¬ j < ops.length := by omega
            clear hj hp hown5
            by_cases hlj : j < ops.length
            · have hp260 : p < 260 := by omega
              obtain ⟨b5, f5, rfl, hb5, hc5⟩ := (hsl4.chg hch (fun b off e => by
                have := hov4 b off none e
                have hz : G < w3.heap.size := by omega
                simp; rintro rfl
                simp at this; omega)).at_i64 hlj
              have hlen5 : (done ++ ((ops.take j).map fun s => (⟨q, ByteArray.empty, s⟩ : Cell)) ++ List.replicate (260 - p) default).length = 260 := by
                have := Hp.out; simp; omega
              obtain ⟨⟨u0, e0⟩, ⟨u1, e1⟩, ⟨u2, e2⟩, f0, f1, f2⟩ := Hown5.out.room3 (k := p) (fun _ => rfl) (by rw [hlen5]; exact hp260)
              have hset := Own.set3 (fun _ => rfl) Hown5.out (k := p) (c := ⟨q, ByteArray.empty, ops[j]⟩) hlen5.symm (by rw [hlen5]; exact hp260) rfl
              have Hset := Lib.hid hset
              clear hset hlen5
              generalize hoj : ops[j] = s at *
              have Hoj := Lib.hid hoj
              clear hoj
              go_wp2_with fail
              go_roundg (gk - 1)
              case measure => have := Hj.out; omega
              case rel =>
                refine ⟨j + 1, p + 1, by have := Hj.out; omega, by have := Hp.out; omega, by go_num, by go_num, ?_, ?_⟩
                · rw [set_fill Hp.out hlj (by omega), Hoj.out]
                  exact Hset.out
                · exact ((hch.trans (Chg.set (a := ⟨G, p * 3, none⟩) _ (by simp) _)).trans (Chg.set (a := ⟨G, p * 3 + 1, none⟩) _ (by simp) _)).trans (Chg.set (a := ⟨G, p * 3 + 2, none⟩) _ (by simp) _)
            · have hj' : j = ops.length := by have := Hj.out; omega
              have Hj' := Lib.hid hj'
              clear hj'
              go_wp2_with fail
              have hps : p = (openN vs t (leastOf ms) (q + 1)).length := by rw [Hsc.out, Hp.out, Hj'.out]; simp
              have hws : won + sts.length = winN vs t (q + 1) := Hws.out.symm
              go_roundg (vs.length - (q + 1))
              case measure => have := Hq.out; omega
              case rel =>
                refine ⟨q + 1, by omega, by go_num, by rw [hps], by rw [← hws]; go_num, ?_, ?_, ?_⟩
                · have h5 := Hown5.out
                  rw [Hj'.out, List.take_length, ← Hsc.out, hps] at h5
                  exact h5
                · have := hch.size; omega
                · refine Below.chain ?_ hch (by omega) (by simp; omega)
                  exact (hb2.alloc hb2.size _).trans ((hb3.mono (by have := hb2.size; simp; omega)).trans (hk4.1.mono (by have := hb2.size; omega)))
        · have hqv : q = vs.length := by have := Hq.out; omega
          have hL := openN_le hv t (leastOf ms) q (by omega)
          have hW := winN_le hv t q (by omega)
          have hoc : openCells vs t (leastOf ms) = openN vs t (leastOf ms) q := by rw [hqv]; rfl
          have hlt' : isLate vs t (leastOf ms) = (decide (0 < winN vs t q) && (openN vs t (leastOf ms) q).isEmpty) := by rw [hqv]; rfl
          have Hoc := Lib.hid hoc
          have Hlt' := Lib.hid hlt'
          have hq4 : q ≤ 4 := by omega
          clear hoc hlt' hqv
          generalize openN vs t (leastOf ms) q = cs at *
          generalize winN vs t q = won at *
          have hsl2 : Sl 3 cellL wr (some ⟨G, 0, none⟩) cs := by
            have h7 := (Hown2.out.sl0 fun _ => rfl).take cs.length
            rwa [List.take_left] at h7
          have hclone := fun W hW => cloneCells_any G 0 cs.length cs W hW (by omega)
          rcases Nat.eq_zero_or_pos won with h0 | h0
          · subst h0
            go_wp2_with fail
            refine (hclone _ hsl2).mono ?_
            rintro e w6 ⟨v6, rfl, hown6, hb6⟩
            go_wp2_with fail
            go_ret3
            refine ⟨v6, ?_, ?_, ?_⟩
            · rw [Hlt'.out]; simp
            · rw [Hoc.out]; exact hown6.mono hb2.size
            · exact hb2.trans (hb6.mono hb2.size)
          · have b0 : decide (0 < won) = true := by simp; omega
            rcases Nat.eq_zero_or_pos cs.length with h1 | h1
            · have b1 : ((cs.length : Int) == 0) = true := by simp [h1]
              have B1 := Lib.hid h1
              clear h1
              go_wp2_with fail
              refine (hclone _ hsl2).mono ?_
              rintro e w6 ⟨v6, rfl, hown6, hb6⟩
              go_wp2_with fail
              go_ret3
              refine ⟨v6, ?_, ?_, ?_⟩
              · rw [Hlt'.out, List.eq_nil_of_length_eq_zero B1.out]; simp [h0]
              · rw [Hoc.out]; exact hown6.mono hb2.size
              · exact hb2.trans (hb6.mono hb2.size)
            · have b1 : ((cs.length : Int) == 0) = false := by simp; intro e; subst e; simp at h1
              go_wp2_with fail
              refine (hclone _ hsl2).mono ?_
              rintro e w6 ⟨v6, rfl, hown6, hb6⟩
              go_wp2_with fail
              go_ret3
              refine ⟨v6, ?_, ?_, ?_⟩
              · rw [Hlt'.out]
                have : cs.isEmpty = false := by cases cs with
                  | nil => simp at h1
                  | cons => rfl
                simp [this]
              · rw [Hoc.out]; exact hown6.mono hb2.size
              · exact hb2.trans (hb6.mono hb2.size)
end Go.Proofs.Ytaicecnfodhlcaa
