/- The walk of the law OperBook. -/
import Derived.Test.YtheimbhnckaonaaBook
import Derived.Test.YtheimbhnckaonaaAggB
import Derived.Deep.DeepCutAuto
set_option linter.unusedVariables false
set_option linter.unusedSimpArgs false
namespace Go.Proofs.Ytheimbhnckaonaa
open Go.RowKit

theorem met_end {K J : Act → World → Prop} {Q : Exit → Act → World → Prop} {a : Act} {w : World} (h : ∀ a' w', Met J a' w' → K a' w') (h2 : J a w) : Exit.then K Q Exit.normal a w := h _ _ (Met.intro h2)

set_option maxRecDepth 100000 in
set_option maxHeartbeats 4000000 in
theorem book_bad (A : Option Addr) (cap : Nat) (vs : List View) (n : Int) (s1 s2 : Value) (w : World) (hs : Sl 3 viewL w A vs) (he : newE vs n ≠ 0) :
    Calls Try.prog 12 #[.slice A vs.length cap, .int .i64 n, s1, s2] w fun e w' => e = .returned (.bool true) ∧ Below w.heap.size w w' := by
  have hk := fun W => known_any W
  have hn1 := fun a c W hs => new_bad a c vs n W hs he
  have hn2 := fun a c W hs => refNew_bad a c vs n W hs he
  have her : (newE vs n != newE vs n) = false := by simp
  generalize newE vs n = er at *
  go_enter Try.func12, Try.ntmps12
  go_wp2_with fail
  refine (hk _).mono ?_
  rintro e w0 ⟨rfl, hb0⟩
  have hs0 := hs.below hb0
  go_wp2_with fail
  refine (hn1 _ _ _ hs0).mono ?_
  rintro e w1 ⟨rfl, hb1⟩
  have hs1 := hs0.below hb1
  go_wp2_with fail
  refine (hn2 _ _ _ hs1).mono ?_
  rintro e w2 ⟨rfl, hb2⟩
  have hz0 := hb0.size
  have hz1 := hb1.size
  go_wp2_with fail
  go_ret
  exact ⟨rfl, ((hb0.trans (hb1.mono (by omega))).trans (hb2.mono (by omega)))⟩

theorem stepBook {N B0 : Nat} {w W : World} {b : OpB} {r : RefB} {O : Op14} {sa : Slc} {VA V : List Slc} {f : Nat → List Cell} (h : Book N B0 w b r O sa VA V f) (hN : N ≤ w.heap.size) (hb : Below w.heap.size w W) (kind source : Int) (key : ByteArray) (t v : Int) (A : Option Addr) (cap : Nat) (cs : List Cell) (hs : Sl 3 cellL W A cs) (hA : cs ≠ [] → Under N A) (hc : cs.length ≤ cap) (hmax : O.live.length ≤ 10000000) :
    Calls Try.prog 20 #[.pointer (some ⟨b.bp, 0, none⟩), .pointer (some ⟨r.rp, 0, none⟩), stepV kind source key t v (.slice A cs.length cap)] W fun e w' => e = .returned (.bool true) ∧ ∃ O', Book N B0 w' b r O' sa VA V f ∧ O'.live.length ≤ O.live.length + 300 ∧ Chg (four b r) W w' := by
  have h' := h.below hb
  obtain ⟨F, h1, h2⟩ := h'.both
  exact (step_chg b (gh r F) O kind source key t v A cap cs W h1 hs hA hc hmax (Nat.le_trans hN hb.size)).mono fun e w' ⟨he, O', k1, k2, k3⟩ => ⟨he, O', h'.went ⟨F, k1, h2⟩ k2, k3, k2⟩

theorem own_slc {e B : Nat} {w : World} {v : Value} {xs : List Cell} (h : Own e 3 cellL B w v xs) : ∃ s : Slc, v = s.v ∧ s.n = xs.length ∧ Sl 3 cellL w s.a xs := by
  obtain ⟨o, cap, rfl, hs, _⟩ := own_addr h (fun _ => rfl)
  exact ⟨⟨o, xs.length, cap⟩, rfl, rfl, hs⟩

theorem takeBook {N B0 : Nat} {W : World} {b : OpB} {r : RefB} {O : Op14} {sa : Slc} {VA V : List Slc} {f : Nat → List Cell} (h : Book N B0 W b r O sa VA V f) (k : ByteArray) (t : Int) :
    Calls Try.prog 29 #[.pointer (some ⟨b.bp, 0, none⟩), .string k, .int .i64 t] W fun e w' => ∃ a cap, e = .returned (.tuple #[.slice a (takeX O k t).length cap, .bool (takeL O k t), .int .i64 (takeE O k t)]) ∧ Sl 3 cellL w' a (takeX O k t) ∧ Below W.heap.size W w' ∧ ∃ f', Book N B0 w' b r O sa VA (V ++ [⟨a, (takeX O k t).length, cap⟩]) f' := by
  obtain ⟨F, h1, _⟩ := h.both
  refine (take_all b O k t W h1.op).mono ?_
  rintro e w' ⟨v, he, ho, hb⟩
  have hX : (takeX O k t).length ≤ 256 := takeX_len h1.op.vhi h1.op.vok k t
  obtain ⟨⟨a, n, cap⟩, rfl, rfl, hs⟩ := own_slc ho
  exact ⟨a, cap, he, hs, hb, h.tell hb ho (by omega)⟩
theorem rtakeBook {N B0 : Nat} {W : World} {b : OpB} {r : RefB} {O : Op14} {sa : Slc} {VA V : List Slc} {f : Nat → List Cell} (h : Book N B0 W b r O sa VA V f) (k : ByteArray) (t : Int) :
    Calls Try.prog 37 #[.pointer (some ⟨r.rp, 0, none⟩), .string k, .int .i64 t] W fun e w' => ∃ a cap, e = .returned (.tuple #[.slice a (takeX O k t).length cap, .bool (takeL O k t), .int .i64 (takeE O k t)]) ∧ Sl 3 cellL w' a (takeX O k t) ∧ Below W.heap.size W w' := by
  obtain ⟨F, h1, _⟩ := h.both
  refine (refTake_all (gh r F) O k t W h1.rf).mono ?_
  rintro e w' ⟨v, he, ho, hb⟩
  obtain ⟨⟨a, n, cap⟩, rfl, rfl, hs⟩ := own_slc ho
  exact ⟨a, cap, he, hs, hb⟩
theorem liveBook {N B0 : Nat} {W : World} {b : OpB} {r : RefB} {O : Op14} {sa : Slc} {VA V : List Slc} {f : Nat → List Cell} (h : Book N B0 W b r O sa VA V f) (hl : O.live.length ≤ 10000000) :
    Calls Try.prog 22 #[.pointer (some ⟨b.bp, 0, none⟩)] W fun e w' => ∃ a cap, e = .returned (.slice a O.live.length cap) ∧ Sl 3 cellL w' a O.live ∧ Below W.heap.size W w' ∧ ∃ f', Book N B0 w' b r O sa VA (V ++ [⟨a, O.live.length, cap⟩]) f' := by
  obtain ⟨F, h1, _⟩ := h.both
  refine (live_any b O W h1.op (by omega)).mono ?_
  rintro e w' ⟨v, he, ho, hb⟩
  obtain ⟨⟨a, n, cap⟩, rfl, rfl, hs⟩ := own_slc ho
  exact ⟨a, cap, he, hs, hb, h.tell hb ho (by omega)⟩
theorem cellsBook {N B0 : Nat} {W : World} {b : OpB} {r : RefB} {O : Op14} {sa : Slc} {VA V : List Slc} {f : Nat → List Cell} (h : Book N B0 W b r O sa VA V f) :
    ∃ la lcap, Sl 3 cellL W la O.live ∧ W.cell? ⟨r.rp, 2, none⟩ = some (.slice la O.live.length lcap) ∧ r.rp < W.heap.size := by
  obtain ⟨F, h1, _⟩ := h.both
  obtain ⟨av, vcap, la, lcap, _, _, _, hls, _, _, _, _, _, c2⟩ := h1.rf.sl
  exact ⟨la, lcap, hls, c2, h1.rf.lt.1⟩
theorem same_true (a : Option Addr) (ca : Nat) (xs : List Cell) (b : Option Addr) (cb : Nat) (w : World) (hx : Sl 3 cellL w a xs) (hy : Sl 3 cellL w b xs) (hm : xs.length ≤ 1000000000) :
    Calls Try.prog 21 #[.slice a xs.length ca, .slice b xs.length cb] w fun e w' => e = .returned (.bool true) ∧ Below w.heap.size w w' := by
  have h := same_any a ca xs b cb xs w hx hy (by omega)
  rw [decide_eq_true rfl] at h
  exact h

theorem markBook {N B0 : Nat} {W : World} {b : OpB} {r : RefB} {O : Op14} {sa : Slc} {VA V : List Slc} {f : Nat → List Cell} (h : Book N B0 W b r O sa VA V f) (s t : Int) (hl : O.live.length ≤ 10000000) :
    Calls Try.prog 30 #[.pointer (some ⟨b.bp, 0, none⟩), .int .i64 s, .int .i64 t] W fun e w1 => ∃ a cap, e = .returned (.tuple #[.slice a (markX O s t).length cap, .int .i64 (markE O s t)]) ∧ Sl 3 cellL w1 a (markX O s t) ∧ (∀ g off, a = some ⟨g, off, none⟩ → W.heap.size ≤ g) ∧ Chg [b.bl, b.br] W w1 ∧
      ∃ F', IsRef w1 (gh r F') O ∧ ∀ w2, IsRef w2 (gh r F') (markO O s t) → Chg [r.rp, r.rl] w1 w2 → ∃ f', Book N B0 w2 b r (markO O s t) sa VA (V ++ [⟨a, (markX O s t).length, cap⟩]) f' := by
  obtain ⟨F, h1, h2⟩ := h.both
  refine (mark_all b O s t W h1.op (by omega)).mono ?_
  rintro e w1 ⟨v, he, ho, hop, hch⟩
  obtain ⟨⟨a, n, cap⟩, rfl, rfl, hs⟩ := own_slc ho
  have hn1 := h1.n1
  have hrf := h1.rf_stays hch
  obtain ⟨o1, o2, o3, o4⟩ := h.low.op
  obtain ⟨p1, p2⟩ := h.low.rf
  obtain ⟨f1, f2, f3, f4, f5, f6, f7⟩ := h1.facts
  have hsg : ∀ g ∈ vblk [(⟨a, (markX O s t).length, cap⟩ : Slc)], W.heap.size ≤ g ∧ g < w1.heap.size := fun g hg => by
    rcases mem_vblk_cons.1 hg with e | e
    · exact ho.ge e
    · simp [vblk] at e
  have hrp : w1.heap[r.rp]? = W.heap[r.rp]? := hch.block _ h1.rf.lt.1 (by simp; exact ⟨f1, f2⟩)
  have hmx : (markX O s t).length ≤ O.live.length := by
    unfold markX
    split
    · exact List.length_filter_le _ _
    · simp
  refine ⟨a, cap, he, hs, fun g off e => ?_, hch, vblk [⟨a, (markX O s t).length, cap⟩] ++ F, h1.rf.more hrf hrp _ hsg, fun w2 hrf2 hch2 => ?_⟩
  · subst e; exact (ho.ge rfl).1
  · have hop2 := op_stays h1 hop hch2
    have hb2 : Both N w2 b (gh r (vblk [⟨a, (markX O s t).length, cap⟩] ++ F)) (markO O s t) := ⟨hop2, hrf2, h1.hl, h1.hv, h1.n1, h1.n2, h1.n3, h1.n4⟩
    have hcc : Chg (four b r) W w2 := (hch.mono (by simp [four])).trans (hch2.mono (by simp [four]))
    have nl : ∀ g, B0 ≤ g → g ∉ four b r := fun g hg hm => by unfold four at hm; simp at hm; omega
    have hw := h.went ⟨F, ⟨hop2, (hrf2.ghost F (fun g hg => hrf2.flt g (List.mem_append_right _ hg)) (fun cs t f v e e2 g hg => hrf2.free cs t f v e e2 g (List.mem_append_right _ hg))), h1.hl, h1.hv, h1.n1, h1.n2, h1.n3, h1.n4⟩, h2⟩ hcc
    have ho2 : Own 51 3 cellL W.heap.size w2 (Slc.v ⟨a, (markX O s t).length, cap⟩) (markX O s t) := ho.chg hch2 (fun g hg => by have := (ho.ge hg).1; have := h1.rf.lt; simp at this ⊢; omega)
    refine ⟨_, ⟨_, hb2, fun g hg => ?_⟩, h.low, hw.row, hw.rws.snoc (Own.mono ho2 h.hB) (fun g hg hm => ?_), fun g hg => ?_, hw.hB, fun i => ?_⟩
    · rcases mem_vblk_cons.1 hg with e | e
      · exact List.mem_append_right _ (h2 g (mem_vblk_cons.2 (.inl e)))
      · rcases mem_vblk_app.1 e with e | e
        · exact List.mem_append_right _ (h2 g (mem_vblk_cons.2 (.inr e)))
        · exact List.mem_append_left _ e
    · have := (ho2.ge hg).1
      have := (vblk_ge h.rws hm).2
      omega
    · rcases mem_vblk_app.1 hg with e | e
      · exact h.ap g e
      · intro hsa
        have := (h.row.ge hsa).2
        have := (hsg g e).1
        omega
    · split
      · exact h.fl i
      · omega

/-- What stands at the head of the law's first loop. -/
def BkIn (N B0 L M : Nat) (w : World) (b : OpB) (r : RefB) (s : Value) (wx : World) : Prop :=
  ∃ O sa V f, s = Slc.v sa ∧ Book N B0 wx b r O sa V V f ∧ sa.n = V.length ∧ O.live.length ≤ L ∧ V.length ≤ M ∧ Below N w wx

theorem sl_two (c d : Slc) (w : World) (t : TypeId) : Sl 1 sliceL (w.alloc (.cells #[c.v, d.v] t)) (some ⟨w.heap.size, 0, none⟩) [c, d] := by
  have hb : (w.alloc (.cells #[c.v, d.v] t)).heap[w.heap.size]? = some (.cells #[c.v, d.v] t) := blk_at rfl
  intro i hi
  refine ⟨w.heap.size, 0, rfl, by simp, fun j u hu => ?_⟩
  match i, hi with
  | 0, _ =>
    match j with
    | 0 => simp at hu; subst hu; simp only [World.cell?, hb]; rfl
    | j + 1 => simp at hu
  | 1, _ =>
    match j with
    | 0 => simp at hu; subst hu; simp only [World.cell?, hb]; rfl
    | j + 1 => simp at hu

theorem own_blk {e sz B : Nat} {α : Type} {enc : α → List Value} {w : World} {v : Value} {xs : List α} (h : Own e sz enc B w v xs) {g : Nat} (hg : v.ownBlock = some g) : ∃ cur, w.heap[g]? = some (.cells cur e (0, 0)) := by
  rcases h.2 with ⟨rfl, _⟩ | ⟨g', cap, cur, rfl, _, hb, _⟩
  · cases hg
  · cases hg; exact ⟨cur, hb⟩

set_option maxRecDepth 100000 in
set_option maxHeartbeats 16000000 in
theorem book_ok (A : Option Addr) (cap : Nat) (vs : List View) (n : Int) (S1 : Option Addr) (cap1 : Nat) (st1 : List St) (S2 : Option Addr) (cap2 : Nat) (st2 : List St) (w : World) (hs : Sl 3 viewL w A vs) (he : newE vs n = 0)
    (hS1 : Sl 6 stL w S1 st1) (hok1 : ∀ s ∈ st1, StOk w s) (hS2 : Sl 6 stL w S2 st2) (hok2 : ∀ s ∈ st2, StOk w s) :
    Calls Try.prog 12 #[.slice A vs.length cap, .int .i64 n, .slice S1 st1.length cap1, .slice S2 st2.length cap2] w fun e w' => e = .returned (.bool true) ∧ Below w.heap.size w w' := by
  have hk := fun W => known_any W
  obtain ⟨q1, q2, q3, q4, q5⟩ := newE_ok he
  have hn1 := fun a c W hs => new_ok a c vs n W hs q1 q2 q3 q4 q5
  have hn2 := fun a c W hs => refNew_ok a c vs n W hs q1 q2 q3 q4 q5
  clear q1 q2 q3 q4 q5 he
  go_enter Try.func12, Try.ntmps12
  go_wp2_with fail
  refine (hk _).mono ?_
  rintro e w0 ⟨rfl, hb0⟩
  have hs0 := hs.below hb0
  have hz0 := hb0.size
  go_wp2_with fail
  refine (hn1 _ _ _ hs0).mono ?_
  rintro e w1 ⟨b, rfl, hop, hb1, n1, n2, n3, n6⟩
  have hs1 := hs0.below hb1
  have hz1 := hb1.size
  go_wp2_with fail
  refine (hn2 _ _ _ hs1).mono ?_
  rintro e w2 ⟨r, rfl, hrf, hb2, n4, n5, hall⟩
  have hz2 := hb2.size
  have hBoth : Both w.heap.size w2 b r ⟨vs, List.replicate n.toNat noMark, []⟩ := both_new hop hb2 hrf (by omega) (by omega) n4 n5 (by omega)
  have hb02 : Below w.heap.size w w2 := (hb0.trans (hb1.mono (by omega))).trans (hb2.mono (by omega))
  have hbk := Book.start hBoth (fun _ => []) (fun _ => by simp)
  have hin : BkIn w.heap.size w2.heap.size 0 0 w b r (.slice none 0 0) w2 := ⟨_, ⟨none, 0, 0⟩, [], _, rfl, hbk, rfl, by simp, by simp, hb02⟩
  obtain ⟨B0, eB0⟩ : ∃ B0 : Nat, B0 = w2.heap.size := ⟨_, rfl⟩
  rw [← eB0] at hin
  have HIN := Lib.hid hin
  have hN0 : w.heap.size ≤ B0 := by omega
  clear hk hn1 hn2 hop hrf hall hBoth hbk hin hb0 hb1 hb2 hs hs0 hs1 hb02 n1 n2 n3 n4 n5 n6 eB0
  go_wp2_with fail
  go_loopg [13, 14] (min st1.length 50) (fun g s13 i wr => ∃ j : Nat, j + g = min st1.length 50 ∧ i = .int .i64 j ∧ BkIn w.heap.size B0 (300 * j) (5 * j) w b r s13 wr)
  case atStart => exact ⟨0, by omega, rfl, HIN.out⟩
  case round =>
    obtain ⟨j, hj, rfl, O, sa, V, f, rfl, hbk, hsn, hlO, hlV, hb⟩ := hrel
    have Hj := Lib.hid hj
    have Hbk := Lib.hid hbk
    have Hb := Lib.hid hb
    have Hsn := Lib.hid hsn
    have hzr := hb.size
    clear hj hbk HIN hsn
    by_cases hlt : j < min st1.length 50
    · have h7 : j < st1.length := by omega
      have h8 : (j : Int) < 50 := by omega
      obtain ⟨sb, so, rfl, hsb, z0, z1, z2, z3, z4, z5⟩ := hS1.at6 h7
      have d0 := (hb.cell (p := ⟨sb, _, none⟩) hsb).trans z0
      have d1 := (hb.cell (p := ⟨sb, _, none⟩) hsb).trans z1
      have d2 := (hb.cell (p := ⟨sb, _, none⟩) hsb).trans z2
      have d3 := (hb.cell (p := ⟨sb, _, none⟩) hsb).trans z3
      have d4 := (hb.cell (p := ⟨sb, _, none⟩) hsb).trans z4
      have d5 := (hb.cell (p := ⟨sb, _, none⟩) hsb).trans z5
      have hso := hok1 st1[j] (List.getElem_mem h7)
      clear z0 z1 z2 z3 z4 z5 hb
      generalize st1[j] = s at *
      obtain ⟨x1, x2, x3, x4, x5, x6, x7, x8⟩ := s
      dsimp only at *
      have Hso := Lib.hid hso
      clear hso
      have hbA : Below wr.heap.size wr (wr.alloc (.cells #[.int .i64 x1, .int .i64 x2, .string x3, .int .i64 x4, .int .i64 x5, .slice x6 x8.length x7] 37)) := (Below.refl _ _).alloc (Nat.le_refl _) _
      have hgA : (wr.alloc (.cells #[.int .i64 x1, .int .i64 x2, .string x3, .int .i64 x4, .int .i64 x5, .slice x6 x8.length x7] 37)).heap[wr.heap.size]? = some (.cells #[.int .i64 x1, .int .i64 x2, .string x3, .int .i64 x4, .int .i64 x5, .slice x6 x8.length x7] 37) := blk_at rfl
      go_upto_if 71 with fail
      generalize wr.alloc (.cells #[.int .i64 x1, .int .i64 x2, .string x3, .int .i64 x4, .int .i64 x5, .slice x6 x8.length x7] 37) = wA at *
      have BkA := Lib.hid (Hbk.out.below hbA)
      have hzA := hbA.size
      have hltA := lt_of_block hgA
      have HbA := Lib.hid (Hb.out.trans (hbA.mono hzr))
      have HgA := Lib.hid hgA
      have e0 := cell_blk hgA 0
      have e1 := cell_blk hgA 1
      have e2 := cell_blk hgA 2
      have e3 := cell_blk hgA 3
      have e4 := cell_blk hgA 4
      have e5 := cell_blk hgA 5
      simp at e0 e1 e2 e3 e4 e5
      have hwB : wr.heap.size + 0 ≥ B0 := Hbk.out.hB
      have hsalt : ∀ g, sa.v.ownBlock = some g → B0 ≤ g ∧ g < wr.heap.size := fun g e => Hbk.out.row.ge e
      have Hsalt := Lib.hid hsalt
      clear hsalt
      clear hgA hbA Hb Hbk d0 d1 d2 d3 d4 d5
      go_cut [13] (fun s13 wx => BkIn w.heap.size B0 (300 * (j + 1)) (5 * j + 1) w b r s13 wx ∧ wx.heap[wr.heap.size]? = some (.cells #[.int .i64 x1, .int .i64 x2, .string x3, .int .i64 x4, .int .i64 x5, .slice x6 x8.length x7] 37 (0, 0)))
      case first =>
        cases hk2 : (x1 == 2)
        · have hst := fun W (hW : Below wA.heap.size wA W) => stepBook BkA.out (by omega) hW x1 x2 x3 x4 x5 x6 x7 x8 (Hso.out.slB (HbA.out.trans (hW.mono (by omega)))) Hso.out.under Hso.out.cap (by omega)
          unfold stepV at hst
          go_wp2_with fail
          refine (hst _ (Below.refl _ _)).mono ?_
          rintro e w3 ⟨rfl, O', hbk3, hl3, hch3⟩
          have hg3 := (hch3.block wr.heap.size hltA (by have := BkA.out.low.op; have := BkA.out.low.rf; unfold four; simp; omega)).trans HgA.out
          have hb3 : Below w.heap.size w w3 := Below.chain HbA.out hch3 (by omega) (by obtain ⟨F, h1, _⟩ := BkA.out.both; exact h1.four_ge)
          have hfin : BkIn w.heap.size B0 (300 * (j + 1)) (5 * j + 1) w b r (Slc.v sa) w3 := ⟨O', sa, V, f, rfl, hbk3, Hsn.out, by omega, by omega, hb3⟩
          have Hfin := Lib.hid hfin
          have Hg3 := Lib.hid hg3
          clear hst hbk3 hfin hg3 hch3
          go_wp2_with fail
          go_meet
          exact ⟨Hfin.out, Hg3.out⟩
        · have hmk := markBook BkA.out x2 x4 (by omega)
          go_wp2_with fail
          refine hmk.mono ?_
          rintro e w3 ⟨a1, c1, rfl, hs1, hov1, hch1, F', hrf3, hnext⟩
          have hlow := BkA.out.low
          have hob := hlow.op
          have hrb := hlow.rf
          have hk3 : ∀ off, w3.cell? ⟨wr.heap.size, off, none⟩ = wA.cell? ⟨wr.heap.size, off, none⟩ := fun off => World.cell?_of_block (a := ⟨wr.heap.size, off, none⟩) (hch1.block _ hltA (by simp; omega))
          have g1 := (hk3 1).trans e1
          have g3 := (hk3 3).trans e3
          have hz3 := hch1.size
          have hrm := refMark_all (gh r F') O x2 x4 w3 hrf3 (by omega)
          have hmx : (markX O x2 x4).length ≤ O.live.length := by
            unfold markX
            split
            · exact List.length_filter_le _ _
            · simp
          have hml := markO_len O x2 x4
          have Hnext := Lib.hid hnext
          clear hk3 hmk hrf3 hnext
          generalize markX O x2 x4 = X at *
          generalize markO O x2 x4 = O1 at *
          generalize markE O x2 x4 = er at *
          go_wp2_with fail
          refine hrm.mono ?_
          rintro e w4 ⟨v4, rfl, ho4, hrf4, hch4⟩
          have hz4 := hch4.size
          obtain ⟨f', hbk4⟩ := Hnext.out w4 hrf4 hch4
          obtain ⟨⟨a4, n4, c4⟩, rfl, rfl, hs4⟩ := own_slc ho4
          have hs14 : Sl 3 cellL w4 a1 X := hs1.chg hch4 (fun g off e => by have := hov1 g off e; simp; omega)
          have hsame := fun W (hW : Below w4.heap.size w4 W) => same_true a1 c1 X a4 c4 W (hs14.below hW) (hs4.below hW) (by omega)
          have her : (er != er) = false := by simp
          have hg4 := (hch4.block wr.heap.size (by omega) (by simp; omega)).trans ((hch1.block wr.heap.size hltA (by simp; omega)).trans HgA.out)
          have hb4 : Below w.heap.size w w4 := Below.chain (Below.chain HbA.out hch1 (by omega) (by simp; obtain ⟨F, h1, _⟩ := BkA.out.both; exact ⟨h1.n1, h1.n2⟩)) hch4 (by omega) (by simp; obtain ⟨F, h1, _⟩ := BkA.out.both; exact ⟨h1.n3, h1.n4⟩)
          have Hbk4 := Lib.hid hbk4
          have Hg4 := Lib.hid hg4
          have Hb4 := Lib.hid hb4
          clear hrm ho4 hrf4 hch4 hbk4 hs1 hs4 hs14 g1 g3 hch1 Hnext hg4 hb4
          go_wp2_with fail
          refine (hsame _ (Below.refl _ _)).mono ?_
          rintro e w5 ⟨rfl, hb5⟩
          have hz5 := hb5.size
          have hbk5 := (Hbk4.out.below hb5)
          have hrow := (hbk5.below ((Below.refl _ _).alloc (Nat.le_refl _) (.cells #[.slice a1 X.length c1] 35))).row
          have h9 : Sl 1 sliceL (w5.alloc (.cells #[.slice a1 X.length c1] 35)) (some ⟨w5.heap.size, 0, none⟩) [(⟨a1, X.length, c1⟩ : Slc)] := sl_new (sz := 1) (enc := sliceL) ⟨a1, X.length, c1⟩ w5 _ rfl
          have Hrow := Lib.hid hrow
          have Hbk5 := Lib.hid (hbk5.below ((Below.refl _ _).alloc (Nat.le_refl _) (.cells #[.slice a1 X.length c1] 35)))
          have hBz : B0 ≤ w5.heap.size := hbk5.hB
          clear hsame hrow hbk5
          go_wp2_with (at_builtin; refine wpList_app2 st_slices rfl _ _ rfl sliceL (fun _ => rfl) cells1_slice B0 _ V rfl Hrow.out w5.heap.size 0 1 1 [⟨a1, X.length, c1⟩] rfl rfl (by decide) h9 ?p1 ?p2 ?p3 ?_)
          case p1 => simp; omega
          case p2 => decide
          case p3 => simp; omega
          intro v' w6 hown6 hat6
          obtain ⟨sb', rfl, hsn'⟩ := slc_of hown6 (fun _ => rfl)
          have hbk6 := Hbk5.out.noted hown6 (by simpa using hat6)
          have hs6 : w5.heap.size + 1 ≤ w6.heap.size := by rcases hat6 with ⟨_, _, k⟩ | ⟨_, k⟩ <;> (have := k.size; simpa using this)
          have hne6 : ∀ g, g < w5.heap.size → sa.v.ownBlock ≠ some g → w6.heap[g]? = w5.heap[g]? := by
            intro g hg hn
            rcases hat6 with ⟨_, _, k⟩ | ⟨_, k⟩
            · exact (k.block g (by simp; omega) (Ne.symm hn)).trans (blk_old hg)
            · exact (k.block g (by simp; omega) (by simp)).trans (blk_old hg)
          have hc6 : Chg (vblk [sa]) w5 w6 := by
            refine ⟨?_, ?_, ?_, by omega, fun g hg hn => hne6 g hg (fun e => hn (mem_vblk_cons.2 (.inl e)))⟩
            all_goals (rcases hat6 with ⟨_, _, k⟩ | ⟨_, k⟩)
            all_goals (first | exact k.os | exact k.tape | exact k.output)
          have hns : sa.v.ownBlock ≠ some wr.heap.size := fun e => by have := (Hsalt.out _ e).2; omega
          have hb6 : Below w.heap.size w w6 := Below.chain (Hb4.out.trans (hb5.mono (by omega))) hc6 (by omega) (fun x hx => by rcases mem_vblk_cons.1 hx with e | e; exact Nat.le_trans hN0 (Hsalt.out _ e).1; simp [vblk] at e)
          have hg6 := (hne6 wr.heap.size (by omega) hns).trans ((hb5.block wr.heap.size (by omega)).trans Hg4.out)
          have hfin : BkIn w.heap.size B0 (300 * (j + 1)) (5 * j + 1) w b r (Slc.v sb') w6 := ⟨O1, sb', _, f', rfl, hbk6, hsn', by omega, by simp; omega, hb6⟩
          have Hfin := Lib.hid hfin
          have Hg6 := Lib.hid hg6
          clear hfin hg6 hb6 hc6 hne6 hbk6 hat6 hown6 Hrow h9 hsn' Hbk5 hns
          go_wp2_with fail
          go_meet
          exact ⟨Hfin.out, Hg6.out⟩
      case rest =>
        obtain ⟨hbi, hgc⟩ := hcut
        have Hbi := Lib.hid hbi
        have Hgc := Lib.hid hgc
        obtain ⟨wo, rfl⟩ : ∃ wo : World, wo = wr := ⟨_, rfl⟩
        clear hbi hgc e0 e1 e2 e3 e4 e5 BkA hzA HbA HgA Hsalt Hso
        go_wp2_with fail
        go_loopg [13, 20] 2 (fun g s13 c wx => ∃ q : Nat, q + g = 2 ∧ c = .int .i64 q ∧ BkIn w.heap.size B0 (300 * (j + 1)) (5 * j + 1 + 2 * q) w b r s13 wx ∧ wx.heap[wo.heap.size]? = some (.cells #[.int .i64 x1, .int .i64 x2, .string x3, .int .i64 x4, .int .i64 x5, .slice x6 x8.length x7] 37 (0, 0)))
        case atStart => exact ⟨0, by omega, rfl, Hbi.out, Hgc.out⟩
        case round =>
          obtain ⟨q, hq, rfl, ⟨O2, sa2, V2, f2, rfl, hbk, hsn2, hlO2, hlV2, hb2⟩, hg2⟩ := hrel
          have Hq := Lib.hid hq
          have Hbk2 := Lib.hid hbk
          have Hb2 := Lib.hid hb2
          have Hg2 := Lib.hid hg2
          have Hsn2 := Lib.hid hsn2
          have hlt2 := lt_of_block hg2
          have hzw := hb2.size
          have hBz2 : B0 ≤ wr.heap.size := hbk.hB
          have e2 := cell_blk hg2 2
          have e3 := cell_blk hg2 3
          simp at e2 e3
          clear hq hbk hb2 hg2 hsn2
          by_cases hq2 : q < 2
          · have hqi : decide ((q : Int) < 2) = true := by simp; omega
            have htk := takeBook Hbk2.out x3 x4
            go_wp2_with fail
            refine htk.mono ?_
            rintro e w3 ⟨a1, c1, rfl, hs1, hb3, f3, hbk3⟩
            have hz3 := hb3.size
            have g2 := (hb3.cell (p := ⟨wo.heap.size, 2, none⟩) hlt2).trans e2
            have g3 := (hb3.cell (p := ⟨wo.heap.size, 3, none⟩) hlt2).trans e3
            have hrt := rtakeBook hbk3 x3 x4
            have hXl : (takeX O2 x3 x4).length ≤ 256 := by obtain ⟨F, h1, _⟩ := hbk3.both; exact takeX_len h1.op.vhi h1.op.vok x3 x4
            have Hbk3 := Lib.hid hbk3
            clear htk hbk3
            generalize takeX O2 x3 x4 = X at *
            generalize takeL O2 x3 x4 = lt at *
            generalize takeE O2 x3 x4 = er at *
            go_wp2_with fail
            refine hrt.mono ?_
            rintro e w4 ⟨a4, c4, rfl, hs4, hb4⟩
            have hz4 := hb4.size
            have hbk4 := Hbk3.out.below hb4
            have hs14 := hs1.below hb4
            have hlv := liveBook hbk4 (by omega)
            clear hrt hbk4 g2 g3 hs1
            go_wp2_with fail
            refine hlv.mono ?_
            rintro e w5 ⟨a5, c5, rfl, hs5, hb5, f5, hbk5⟩
            have hz5 := hb5.size
            obtain ⟨la, lcap, hla, hrc, hrlt⟩ := cellsBook hbk5
            have hsameA := same_true a1 c1 X a4 c4 w5 (hs14.below hb5) (hs4.below hb5) (by omega)
            have hsameB := fun W (hW : Below w5.heap.size w5 W) => same_true a5 c5 O2.live la lcap W (hs5.below hW) (hla.below hW) (by omega)
            have Hbk5 := Lib.hid hbk5
            have Hlo := Lib.hid hlO2
            clear hlv hbk5 hs14 hs4 hs5 hla
            generalize hLL : O2.live = L at *
            have HLL := Lib.hid hLL
            clear hLL
            go_wp2_with fail
            refine hsameA.mono ?_
            rintro e w6 ⟨rfl, hb6⟩
            have hz6 := hb6.size
            have hrc6 := (hb6.cell (p := ⟨r.rp, 2, none⟩) hrlt).trans hrc
            have hsameB6 := hsameB _ hb6
            clear hsameA hrc hsameB
            go_wp2_with fail
            refine hsameB6.mono ?_
            rintro e w7 ⟨rfl, hb7⟩
            have hz7 := hb7.size
            have hbk7 := ((Hbk5.out.below hb6).below hb7).below ((Below.refl _ _).alloc (Nat.le_refl _) (.cells #[.slice a1 X.length c1, .slice a5 L.length c5] 35))
            have hb37 : Below wr.heap.size wr w7 := (((hb3.trans (hb4.mono hz3)).trans (hb5.mono (by omega))).trans (hb6.mono (by omega))).trans (hb7.mono (by omega))
            have h9 := sl_two ⟨a1, X.length, c1⟩ ⟨a5, L.length, c5⟩ w7 35
            have Hrow := Lib.hid hbk7.row
            have Hbk7 := Lib.hid hbk7
            have hBz : B0 ≤ w7.heap.size := by omega
            have hsalt : ∀ g, sa2.v.ownBlock = some g → B0 ≤ g ∧ g < wr.heap.size := fun g e => Hbk2.out.row.ge e
            have Hsalt := Lib.hid hsalt
            have Hb37 := Lib.hid hb37
            clear hbk7 hsalt hsameB6 hrc6 hb3 hb4 hb5 hb6 hb7 hb37 Hbk5 Hbk3
            go_wp2_with (at_builtin; refine wpList_app2 st_slices rfl _ _ rfl sliceL (fun _ => rfl) cells1_slice B0 _ V2 rfl Hrow.out w7.heap.size 0 2 2 [⟨a1, X.length, c1⟩, ⟨a5, L.length, c5⟩] rfl rfl (by decide) h9 ?t1 ?t2 ?t3 ?_)
            case t1 => simp; omega
            case t2 => decide
            case t3 => simp; omega
            intro v' w8 hown8 hat8
            obtain ⟨sb', rfl, hsn'⟩ := slc_of hown8 (fun _ => rfl)
            have hbk8 := Hbk7.out.noted hown8 (by simpa using hat8)
            rw [List.append_assoc] at hbk8
            have hs8 : w7.heap.size + 1 ≤ w8.heap.size := by rcases hat8 with ⟨_, _, k⟩ | ⟨_, k⟩ <;> (have := k.size; simpa using this)
            have hne8 : ∀ g, g < w7.heap.size → sa2.v.ownBlock ≠ some g → w8.heap[g]? = w7.heap[g]? := by
              intro g hg hn
              rcases hat8 with ⟨_, _, k⟩ | ⟨_, k⟩
              · exact (k.block g (by simp; omega) (Ne.symm hn)).trans (blk_old hg)
              · exact (k.block g (by simp; omega) (by simp)).trans (blk_old hg)
            have hc8 : Chg (vblk [sa2]) w7 w8 := by
              refine ⟨?_, ?_, ?_, by omega, fun g hg hn => hne8 g hg (fun e => hn (mem_vblk_cons.2 (.inl e)))⟩
              all_goals (rcases hat8 with ⟨_, _, k⟩ | ⟨_, k⟩)
              all_goals (first | exact k.os | exact k.tape | exact k.output)
            have hns : sa2.v.ownBlock ≠ some wo.heap.size := fun e => by
              obtain ⟨cur, hcur⟩ := own_blk Hbk2.out.row e
              have h := Hg2.out
              rw [hcur] at h
              cases h
            have hb8 : Below w.heap.size w w8 := Below.chain (Hb2.out.trans (Hb37.out.mono (by omega))) hc8 (by omega) (fun x hx => by rcases mem_vblk_cons.1 hx with e | e; exact Nat.le_trans hN0 (Hsalt.out _ e).1; simp [vblk] at e)
            have hg8 := (hne8 wo.heap.size (by omega) hns).trans ((Hb37.out.block wo.heap.size (by omega)).trans Hg2.out)
            have hfin : BkIn w.heap.size B0 (300 * (j + 1)) (5 * j + 1 + 2 * (q + 1)) w b r (Slc.v sb') w8 := ⟨O2, sb', _, f5, rfl, hbk8, by rw [hsn'], by rw [HLL.out]; exact Hlo.out, by simp; omega, hb8⟩
            have Hfin := Lib.hid hfin
            have Hg8 := Lib.hid hg8
            clear hfin hg8 hb8 hc8 hne8 hbk8 hat8 hown8 Hrow h9 hsn' Hbk7 hns
            go_wp2_with fail
            go_roundg (2 - (q + 1))
            case measure => have := Hq.out; omega
            case rel => exact ⟨q + 1, by have := Hq.out; omega, by go_num, Hfin.out, Hg8.out⟩
          · obtain rfl : q = 2 := by have := Hq.out; omega
            have hfin : BkIn w.heap.size B0 (300 * (j + 1)) (5 * (j + 1)) w b r (Slc.v sa2) wr := ⟨O2, sa2, V2, f2, rfl, Hbk2.out, Hsn2.out, hlO2, by omega, Hb2.out⟩
            have Hfin := Lib.hid hfin
            clear hfin
            go_wp2_with fail
            go_roundg (min st1.length 50 - (j + 1))
            case measure => have := Hj.out; omega
            case rel => exact ⟨j + 1, by have := Hj.out; omega, by go_num, Hfin.out⟩
    · obtain ⟨sa1, sa2, sa3⟩ := sa
      have hsn := Hsn.out
      simp only at hsn
      subst hsn
      have hmj : j ≤ 50 := by have := Hj.out; omega
      have hgr : Calls Try.prog 38 #[.slice sa1 V.length sa3] wr.drew fun e w' => e = .returned (.bool true) ∧ Chg (vblk V) wr.drew w' := by
        have hbD := Hbk.out.below (Below.refl _ _).drew
        exact grown_any sa1 sa3 V f B0 wr.drew (hbD.row.sl0 fun _ => rfl) hbD.rws (fun x off e i hi hv => hbD.ap x (mem_vblk hi hv) (by rw [e]; rfl)) hbD.hB (by omega) hbD.fl
      have hspent : ∀ w3, Chg (vblk V) wr.drew w3 → ∃ F, Both w.heap.size w3 b (gh r F) O := fun w3 hc => (Hbk.out.below (Below.refl _ _).drew).spent hc
      have hbelow : ∀ w3, Chg (vblk V) wr.drew w3 → Below w.heap.size w w3 := fun w3 hc => Below.chain (Hb.out.drew) hc (by show _ ≤ wr.heap.size; omega) (fun x hx => Nat.le_trans hN0 (vblk_ge Hbk.out.rws hx).1)
      clear Hbk Hb Hsn
      by_cases hc1 : st1.length ≤ 50
      · have h7 : ¬ (j : Int) < (st1.length : Int) := by omega
        have h8 : decide ((j : Int) < (st1.length : Int)) = false := by simp; omega
        go_wp2_with fail
        refine wp_region_held_drew (S := fun _ => True) (by kernel_rfl) trivial (fun hHeld => ?_)
        refine wpAnyH_takeD (i := 0) (oi := _) (d := 152) (v := ?vg0) rfl (by kernel_rfl) (by kernel_rfl) (by kernel_rfl) (by kernel_rfl) (fun _ _ _ h => h) (Or.inl ⟨by kernel_rfl, ?yg0⟩) (by assumption) ?rg0
        case yg0 =>
          intro w' hSw
          try dsimp only at hSw
          go_simp
          try with_reducible rfl
        try simp only [Act.put, List.setIfInBounds_toArray, List.set_cons_zero, List.set_cons_succ]
        refine wpAnyH_ready (rs := [1]) (by kernel_rfl) (by simp) ?_
        refine AllReadyH.cons (o := _) rfl (fun K hK => ?_) AllReadyH.nil
        go_simp
        go_at_call 38
        refine hgr.mono ?_
        rintro e w3 ⟨rfl, hch3⟩
        refine hK.out _ _ trivial (fun _ => ?_)
        clear hK K
        try simp only [Act.put, List.setIfInBounds_toArray, List.set_cons_zero, List.set_cons_succ]
        obtain ⟨F3, hB3⟩ := hspent w3 hch3
        have hz3 := hch3.size
        have hb3 : Below w.heap.size w w3 := hbelow w3 hch3
        obtain ⟨av, vcap, la, lcap, _, _, _, hls, _, _, _, _, _, c2⟩ := hB3.rf.sl
        have kq : ∀ W, Below w3.heap.size w3 W → (Below w3.heap.size w3 W ∧ W.cell? ⟨r.rp, 2, none⟩ = some (.slice la O.live.length lcap)) := fun W hW => ⟨hW, (hW.cell hB3.rf.lt.1).trans c2⟩
        have hlive := live_both hB3 (by omega)
        have hsame : ∀ W o cap, Sl 3 cellL W o O.live → Below w3.heap.size w3 W → Calls Try.prog 21 #[.slice o O.live.length cap, .slice la O.live.length lcap] W fun e w' => e = .returned (.bool true) ∧ Below W.heap.size W w' :=
          fun W o cap h1 h2 => same_true o cap O.live la lcap W h1 (hls.below h2) (by omega)
        have hk5 := kq _ (Below.refl _ _)
        have HB3 := Lib.hid hB3
        have Hb3 := Lib.hid hb3
        have Hlo := Lib.hid hlO
        clear hB3 hb3 hls c2 hgr hspent hbelow hch3 hlO
        generalize hLe : O.live = L at *
        have HLe := Lib.hid hLe
        clear hLe
        refine wpAnyH_strong (S' := fun W => Below w3.heap.size w3 W ∧ W.cell? ⟨r.rp, 2, none⟩ = some (.slice la L.length lcap)) (fun _ _ => trivial) _ _ _ _ ?_
        refine wpAnyH_takeD (i := 2) (oi := _) (d := 154) (v := ?vh2) rfl (by kernel_rfl) (by kernel_rfl) (by kernel_rfl) (by kernel_rfl) (fun _ _ _ h => h) (Or.inl ⟨by kernel_rfl, ?yh2⟩) (by assumption) ?rh2
        case yh2 =>
          intro w' hSw
          try dsimp only at hSw
          go_simp
          try with_reducible rfl
        try simp only [Act.put, List.setIfInBounds_toArray, List.set_cons_zero, List.set_cons_succ]
        refine wpAnyH_takeD (i := 3) (oi := _) (d := 155) (v := ?vh3) rfl (by kernel_rfl) (by kernel_rfl) (by kernel_rfl) (by kernel_rfl) (fun _ _ _ h => h) (Or.inl ⟨by kernel_rfl, ?yh3⟩) (by assumption) ?rh3
        case yh3 =>
          intro w' hSw
          try dsimp only at hSw
          go_simp
          try with_reducible rfl
        try simp only [Act.put, List.setIfInBounds_toArray, List.set_cons_zero, List.set_cons_succ]
        refine wpAnyH_takeD (i := 4) (oi := _) (d := 156) (v := ?vh4) rfl (by kernel_rfl) (by kernel_rfl) (by kernel_rfl) (by kernel_rfl) (fun _ _ _ h => h) (Or.inl ⟨by kernel_rfl, ?yh4⟩) (by assumption) ?rh4
        case yh4 =>
          intro w' hSw
          try dsimp only at hSw
          go_simp
          try with_reducible rfl
        try simp only [Act.put, List.setIfInBounds_toArray, List.set_cons_zero, List.set_cons_succ]
        refine wpAnyH_takeD (i := 6) (oi := _) (d := 158) (v := ?vh6) rfl (by kernel_rfl) (by kernel_rfl) (by kernel_rfl) (by kernel_rfl) (fun _ _ _ h => h) (Or.inl ⟨by kernel_rfl, ?yh6⟩) (by assumption) ?rh6
        case yh6 =>
          intro w' hSw
          try dsimp only at hSw
          go_simp
          try with_reducible rfl
        try simp only [Act.put, List.setIfInBounds_toArray, List.set_cons_zero, List.set_cons_succ]
        refine wpAnyH_takeD (i := 7) (oi := _) (d := 159) (v := ?vh7) rfl (by kernel_rfl) (by kernel_rfl) (by kernel_rfl) (by kernel_rfl) (fun _ _ _ h => h) (Or.inl ⟨by kernel_rfl, ?yh7⟩) (by assumption) ?rh7
        case yh7 =>
          intro w' hSw
          try dsimp only at hSw
          go_simp
          try with_reducible rfl
        try simp only [Act.put, List.setIfInBounds_toArray, List.set_cons_zero, List.set_cons_succ]
        refine wpAnyH_takeD (i := 8) (oi := _) (d := 160) (v := ?vh8) rfl (by kernel_rfl) (by kernel_rfl) (by kernel_rfl) (by kernel_rfl) (fun _ _ _ h => h) (Or.inl ⟨by kernel_rfl, ?yh8⟩) (by assumption) ?rh8
        case yh8 =>
          intro w' hSw
          try dsimp only at hSw
          go_simp
          try with_reducible rfl
        try simp only [Act.put, List.setIfInBounds_toArray, List.set_cons_zero, List.set_cons_succ]
        refine wpAnyH_takeD (i := 9) (oi := _) (d := 161) (v := ?vh9) rfl (by kernel_rfl) (by kernel_rfl) (by kernel_rfl) (by kernel_rfl) (fun _ _ _ h => h) (Or.inl ⟨by kernel_rfl, ?yh9⟩) (by assumption) ?rh9
        case yh9 =>
          intro w' hSw
          try dsimp only at hSw
          go_simp
          try with_reducible rfl
        try simp only [Act.put, List.setIfInBounds_toArray, List.set_cons_zero, List.set_cons_succ]
        refine wpAnyH_ready (rs := [5]) (by kernel_rfl) (by simp) ?_
        refine AllReadyH.cons (o := _) rfl (fun K hK => ?_) AllReadyH.nil
        go_simp
        go_at_call 22
        refine hlive.mono ?_
        rintro e w4 ⟨o4, cap4, rfl, hs4, hb4⟩
        have hk4 := kq _ hb4
        refine hK.out _ _ hk4 (fun _ => ?_)
        clear hK K
        try simp only [Act.put, List.setIfInBounds_toArray, List.set_cons_zero, List.set_cons_succ]
        refine wpAnyH_ready (rs := [10]) (by kernel_rfl) (by simp) ?_
        refine AllReadyH.cons (o := _) rfl (fun K hK => ?_) AllReadyH.nil
        go_simp
        go_at_call 21
        refine (hsame _ _ _ hs4 hb4).mono ?_
        rintro e w5 ⟨rfl, hb5⟩
        have hb45 := hb4.trans (hb5.mono hb4.size)
        have hk6 := kq _ hb45
        refine hK.out _ _ hk6 (fun _ => ?_)
        clear hK K
        try simp only [Act.put, List.setIfInBounds_toArray, List.set_cons_zero, List.set_cons_succ]
        refine wpAnyH_takeD (i := 11) (oi := _) (d := 163) (v := ?vh11) rfl (by kernel_rfl) (by kernel_rfl) (by kernel_rfl) (by kernel_rfl) (fun _ _ _ h => h) (Or.inl ⟨by kernel_rfl, ?yh11⟩) (by assumption) ?rh11
        case yh11 =>
          intro w' hSw
          try dsimp only at hSw
          go_simp
          try with_reducible rfl
        try simp only [Act.put, List.setIfInBounds_toArray, List.set_cons_zero, List.set_cons_succ]
        refine wpAnyH_takeD (i := 12) (oi := _) (d := 164) (v := ?vh12) rfl (by kernel_rfl) (by kernel_rfl) (by kernel_rfl) (by kernel_rfl) (fun _ _ _ h => h) (Or.inl ⟨by kernel_rfl, ?yh12⟩) (by assumption) ?rh12
        case yh12 =>
          intro w' hSw
          try dsimp only at hSw
          go_simp
          try with_reducible rfl
        try simp only [Act.put, List.setIfInBounds_toArray, List.set_cons_zero, List.set_cons_succ]
        refine wpAnyH_done (by kernel_rfl) ?_ _
        have hbAll : Below w.heap.size w w5 := Hb3.out.trans (hb45.mono Hb3.out.size)
        have HB5 := Lib.hid (HB3.out.below hb45)
        have HbAll := Lib.hid hbAll
        clear hk6 hk5 hk4 hb4 hb5 hb45 hbAll kq hsame hlive hs4 HB3 Hb3 hHeld
        go_wp2_with fail
        go_loopg [28] (min st2.length 50) (fun g i wx => ∃ (q : Nat) (O' : Op14) (F : List Nat), q + g = min st2.length 50 ∧ i = .int .i64 q ∧ Both w.heap.size wx b (gh r F) O' ∧ O'.live.length ≤ 300 * (50 + q) ∧ Below w.heap.size w wx)
        case atStart => exact ⟨0, O, F3, by omega, rfl, HB5.out, by rw [HLe.out]; have := Hlo.out; omega, HbAll.out⟩
        case round =>
          obtain ⟨q, O5, F5, hq, rfl, hB5, hlO5, hb5⟩ := hrel
          have Hq := Lib.hid hq
          have HB6 := Lib.hid hB5
          have hz6 := hb5.size
          clear hq hB5
          by_cases hltq : q < min st2.length 50
          · have h7 : q < st2.length := by omega
            have h8 : (q : Int) < 50 := by omega
            obtain ⟨sb, so, rfl, hsb, z0, z1, z2, z3, z4, z5⟩ := hS2.at6 h7
            have d0 := (hb5.cell (p := ⟨sb, _, none⟩) hsb).trans z0
            have d1 := (hb5.cell (p := ⟨sb, _, none⟩) hsb).trans z1
            have d2 := (hb5.cell (p := ⟨sb, _, none⟩) hsb).trans z2
            have d3 := (hb5.cell (p := ⟨sb, _, none⟩) hsb).trans z3
            have d4 := (hb5.cell (p := ⟨sb, _, none⟩) hsb).trans z4
            have d5 := (hb5.cell (p := ⟨sb, _, none⟩) hsb).trans z5
            have hso := hok2 st2[q] (List.getElem_mem h7)
            clear z0 z1 z2 z3 z4 z5
            generalize st2[q] = s at *
            obtain ⟨x1, x2, x3, x4, x5, x6, x7, x8⟩ := s
            dsimp only at *
            have hst := step_any b (gh r F5) O5 x1 x2 x3 x4 x5 x6 x7 x8 wr.drew (HB6.out.below (Below.refl _ _).drew) (hso.slB (hb5.trans ((Below.refl _ _).drew.mono hb5.size))) hso.under hso.cap (by omega) (by have := hb5.size; show _ ≤ wr.heap.size; omega)
            unfold stepV at hst
            have kp : ∀ W, Below w.heap.size wr W → (Below w.heap.size wr W ∧ W.cell? ⟨sb, so + q * 6, none⟩ = some (.int .i64 x1) ∧ W.cell? ⟨sb, so + q * 6 + 1, none⟩ = some (.int .i64 x2) ∧ W.cell? ⟨sb, so + q * 6 + 2, none⟩ = some (.string x3) ∧ W.cell? ⟨sb, so + q * 6 + 3, none⟩ = some (.int .i64 x4) ∧ W.cell? ⟨sb, so + q * 6 + 4, none⟩ = some (.int .i64 x5) ∧ W.cell? ⟨sb, so + q * 6 + 5, none⟩ = some (.slice x6 x8.length x7)) := by
              intro W hW
              have hk : ∀ off, W.cell? ⟨sb, off, none⟩ = wr.cell? ⟨sb, off, none⟩ := fun off => hW.cell (p := ⟨sb, off, none⟩) hsb
              exact ⟨hW, (hk _).trans d0, (hk _).trans d1, (hk _).trans d2, (hk _).trans d3, (hk _).trans d4, (hk _).trans d5⟩
            have kD := kp _ (Below.refl w.heap.size wr).drew
            have Hb5 := Lib.hid hb5
            clear hso hb5
            go_wp2_with fail
            refine wp_region_held_drew (S := fun W => Below w.heap.size wr W ∧ W.cell? ⟨sb, so + q * 6, none⟩ = some (.int .i64 x1) ∧ W.cell? ⟨sb, so + q * 6 + 1, none⟩ = some (.int .i64 x2) ∧ W.cell? ⟨sb, so + q * 6 + 2, none⟩ = some (.string x3) ∧ W.cell? ⟨sb, so + q * 6 + 3, none⟩ = some (.int .i64 x4) ∧ W.cell? ⟨sb, so + q * 6 + 4, none⟩ = some (.int .i64 x5) ∧ W.cell? ⟨sb, so + q * 6 + 5, none⟩ = some (.slice x6 x8.length x7)) (by kernel_rfl) kD (fun hHeld => ?_)
            refine wpAnyH_takeD (i := 0) (oi := _) (d := 175) (v := ?vk0) rfl (by kernel_rfl) (by kernel_rfl) (by kernel_rfl) (by kernel_rfl) (fun _ _ _ h => h) (Or.inl ⟨by kernel_rfl, ?yk0⟩) (by assumption) ?rk0
            case yk0 =>
              intro w' hSw
              try dsimp only at hSw
              go_simp
              try with_reducible rfl
            try simp only [Act.put, List.setIfInBounds_toArray, List.set_cons_zero, List.set_cons_succ]
            refine wpAnyH_takeD (i := 1) (oi := _) (d := 176) (v := ?vk1) rfl (by kernel_rfl) (by kernel_rfl) (by kernel_rfl) (by kernel_rfl) (fun _ _ _ h => h) (Or.inl ⟨by kernel_rfl, ?yk1⟩) (by assumption) ?rk1
            case yk1 =>
              intro w' hSw
              try dsimp only at hSw
              go_simp
              try with_reducible rfl
            try simp only [Act.put, List.setIfInBounds_toArray, List.set_cons_zero, List.set_cons_succ]
            refine wpAnyH_takeD (i := 2) (oi := _) (d := 177) (v := ?vk2) rfl (by kernel_rfl) (by kernel_rfl) (by kernel_rfl) (by kernel_rfl) (fun _ _ _ h => h) (Or.inl ⟨by kernel_rfl, ?yk2⟩) (by assumption) ?rk2
            case yk2 =>
              intro w' hSw
              try dsimp only at hSw
              go_simp
              try with_reducible rfl
            try simp only [Act.put, List.setIfInBounds_toArray, List.set_cons_zero, List.set_cons_succ]
            refine wpAnyH_takeD (i := 3) (oi := _) (d := 178) (v := ?vk3) rfl (by kernel_rfl) (by kernel_rfl) (by kernel_rfl) (by kernel_rfl) (fun _ _ _ h => h) (Or.inl ⟨by kernel_rfl, ?yk3⟩) (by assumption) ?rk3
            case yk3 =>
              intro w' hSw
              try dsimp only at hSw
              go_simp
              try with_reducible rfl
            try simp only [Act.put, List.setIfInBounds_toArray, List.set_cons_zero, List.set_cons_succ]
            refine wpAnyH_takeD (i := 4) (oi := _) (d := 179) (v := ?vk4) rfl (by kernel_rfl) (by kernel_rfl) (by kernel_rfl) (by kernel_rfl) (fun _ _ _ h => h) (Or.inl ⟨by kernel_rfl, ?yk4⟩) (by assumption) ?rk4
            case yk4 =>
              intro w' hSw
              try dsimp only at hSw
              go_simp
              try with_reducible rfl
            try simp only [Act.put, List.setIfInBounds_toArray, List.set_cons_zero, List.set_cons_succ]
            refine wpAnyH_takeD (i := 5) (oi := _) (d := 180) (v := ?vk5) rfl (by kernel_rfl) (by kernel_rfl) (by kernel_rfl) (by kernel_rfl) (fun _ _ _ h => h) (Or.inl ⟨by kernel_rfl, ?yk5⟩) (by assumption) ?rk5
            case yk5 =>
              intro w' hSw
              try dsimp only at hSw
              go_simp
              try with_reducible rfl
            try simp only [Act.put, List.setIfInBounds_toArray, List.set_cons_zero, List.set_cons_succ]
            refine wpAnyH_ready (rs := [6]) (by kernel_rfl) (by simp) ?_
            refine AllReadyH.cons (o := _) rfl (fun K hK => ?_) AllReadyH.nil
            go_simp
            go_at_call 20
            refine hst.mono ?_
            rintro e w4 ⟨rfl, O6, hB7, hb4, hl4⟩
            have hz4 : Below w.heap.size wr w4 := ((Below.refl w.heap.size wr).drew).trans hb4
            have hk4 := kp _ hz4
            refine hK.out _ _ hk4 (fun _ => ?_)
            clear hK K
            try simp only [Act.put, List.setIfInBounds_toArray, List.set_cons_zero, List.set_cons_succ]
            have HB7 := Lib.hid hB7
            clear hst hB7
            obtain ⟨av, vcap, la, lcap, _, _, _, hls, _, _, _, _, _, c2⟩ := HB7.out.rf.sl
            have kq : ∀ W, Below w4.heap.size w4 W → ((Below w.heap.size wr W ∧ W.cell? ⟨sb, so + q * 6, none⟩ = some (.int .i64 x1) ∧ W.cell? ⟨sb, so + q * 6 + 1, none⟩ = some (.int .i64 x2) ∧ W.cell? ⟨sb, so + q * 6 + 2, none⟩ = some (.string x3) ∧ W.cell? ⟨sb, so + q * 6 + 3, none⟩ = some (.int .i64 x4) ∧ W.cell? ⟨sb, so + q * 6 + 4, none⟩ = some (.int .i64 x5) ∧ W.cell? ⟨sb, so + q * 6 + 5, none⟩ = some (.slice x6 x8.length x7)) ∧ W.cell? ⟨r.rp, 2, none⟩ = some (.slice la O6.live.length lcap)) := fun W hW => ⟨kp _ (hz4.trans (hW.mono (Nat.le_trans hz6 hz4.size))), (hW.cell HB7.out.rf.lt.1).trans c2⟩
            have hlive := live_both HB7.out (by omega)
            have hsame : ∀ W o cap, Sl 3 cellL W o O6.live → Below w4.heap.size w4 W → Calls Try.prog 21 #[.slice o O6.live.length cap, .slice la O6.live.length lcap] W fun e w' => e = .returned (.bool true) ∧ Below W.heap.size W w' :=
              fun W o cap h1 h2 => same_true o cap O6.live la lcap W h1 (hls.below h2) (by omega)
            have hk5 := kq _ (Below.refl _ _)
            generalize hLe6 : O6.live = L6 at *
            have HLe6 := Lib.hid hLe6
            clear hls c2 kp hk4 kD hLe6
            refine wpAnyH_strong (S' := fun W => (Below w.heap.size wr W ∧ W.cell? ⟨sb, so + q * 6, none⟩ = some (.int .i64 x1) ∧ W.cell? ⟨sb, so + q * 6 + 1, none⟩ = some (.int .i64 x2) ∧ W.cell? ⟨sb, so + q * 6 + 2, none⟩ = some (.string x3) ∧ W.cell? ⟨sb, so + q * 6 + 3, none⟩ = some (.int .i64 x4) ∧ W.cell? ⟨sb, so + q * 6 + 4, none⟩ = some (.int .i64 x5) ∧ W.cell? ⟨sb, so + q * 6 + 5, none⟩ = some (.slice x6 x8.length x7)) ∧ W.cell? ⟨r.rp, 2, none⟩ = some (.slice la L6.length lcap)) (fun _ h => h.1) _ _ _ _ ?_
            refine wpAnyH_takeD (i := 7) (oi := _) (d := 182) (v := ?vl7) rfl (by kernel_rfl) (by kernel_rfl) (by kernel_rfl) (by kernel_rfl) (fun _ _ _ h => h) (Or.inl ⟨by kernel_rfl, ?yl7⟩) (by assumption) ?rl7
            case yl7 =>
              intro w' hSw
              try dsimp only at hSw
              go_simp
              try with_reducible rfl
            try simp only [Act.put, List.setIfInBounds_toArray, List.set_cons_zero, List.set_cons_succ]
            refine wpAnyH_takeD (i := 8) (oi := _) (d := 183) (v := ?vl8) rfl (by kernel_rfl) (by kernel_rfl) (by kernel_rfl) (by kernel_rfl) (fun _ _ _ h => h) (Or.inl ⟨by kernel_rfl, ?yl8⟩) (by assumption) ?rl8
            case yl8 =>
              intro w' hSw
              try dsimp only at hSw
              go_simp
              try with_reducible rfl
            try simp only [Act.put, List.setIfInBounds_toArray, List.set_cons_zero, List.set_cons_succ]
            refine wpAnyH_takeD (i := 9) (oi := _) (d := 184) (v := ?vl9) rfl (by kernel_rfl) (by kernel_rfl) (by kernel_rfl) (by kernel_rfl) (fun _ _ _ h => h) (Or.inl ⟨by kernel_rfl, ?yl9⟩) (by assumption) ?rl9
            case yl9 =>
              intro w' hSw
              try dsimp only at hSw
              go_simp
              try with_reducible rfl
            try simp only [Act.put, List.setIfInBounds_toArray, List.set_cons_zero, List.set_cons_succ]
            refine wpAnyH_takeD (i := 11) (oi := _) (d := 186) (v := ?vl11) rfl (by kernel_rfl) (by kernel_rfl) (by kernel_rfl) (by kernel_rfl) (fun _ _ _ h => h) (Or.inl ⟨by kernel_rfl, ?yl11⟩) (by assumption) ?rl11
            case yl11 =>
              intro w' hSw
              try dsimp only at hSw
              go_simp
              try with_reducible rfl
            try simp only [Act.put, List.setIfInBounds_toArray, List.set_cons_zero, List.set_cons_succ]
            refine wpAnyH_takeD (i := 12) (oi := _) (d := 187) (v := ?vl12) rfl (by kernel_rfl) (by kernel_rfl) (by kernel_rfl) (by kernel_rfl) (fun _ _ _ h => h) (Or.inl ⟨by kernel_rfl, ?yl12⟩) (by assumption) ?rl12
            case yl12 =>
              intro w' hSw
              try dsimp only at hSw
              go_simp
              try with_reducible rfl
            try simp only [Act.put, List.setIfInBounds_toArray, List.set_cons_zero, List.set_cons_succ]
            refine wpAnyH_takeD (i := 13) (oi := _) (d := 188) (v := ?vl13) rfl (by kernel_rfl) (by kernel_rfl) (by kernel_rfl) (by kernel_rfl) (fun _ _ _ h => h) (Or.inl ⟨by kernel_rfl, ?yl13⟩) (by assumption) ?rl13
            case yl13 =>
              intro w' hSw
              try dsimp only at hSw
              go_simp
              try with_reducible rfl
            try simp only [Act.put, List.setIfInBounds_toArray, List.set_cons_zero, List.set_cons_succ]
            refine wpAnyH_takeD (i := 14) (oi := _) (d := 189) (v := ?vl14) rfl (by kernel_rfl) (by kernel_rfl) (by kernel_rfl) (by kernel_rfl) (fun _ _ _ h => h) (Or.inl ⟨by kernel_rfl, ?yl14⟩) (by assumption) ?rl14
            case yl14 =>
              intro w' hSw
              try dsimp only at hSw
              go_simp
              try with_reducible rfl
            try simp only [Act.put, List.setIfInBounds_toArray, List.set_cons_zero, List.set_cons_succ]
            refine wpAnyH_ready (rs := [10]) (by kernel_rfl) (by simp) ?_
            refine AllReadyH.cons (o := _) rfl (fun K hK => ?_) AllReadyH.nil
            go_simp
            go_at_call 22
            refine hlive.mono ?_
            rintro e w5 ⟨o5, cap5, rfl, hs5, hb5⟩
            have hk6 := kq _ hb5
            refine hK.out _ _ hk6 (fun _ => ?_)
            clear hK K
            try simp only [Act.put, List.setIfInBounds_toArray, List.set_cons_zero, List.set_cons_succ]
            refine wpAnyH_ready (rs := [15]) (by kernel_rfl) (by simp) ?_
            refine AllReadyH.cons (o := _) rfl (fun K hK => ?_) AllReadyH.nil
            go_simp
            go_at_call 21
            refine (hsame _ _ _ hs5 hb5).mono ?_
            rintro e w6 ⟨rfl, hb6⟩
            have hb46 := hb5.trans (hb6.mono hb5.size)
            have hk7 := kq _ hb46
            refine hK.out _ _ hk7 (fun _ => ?_)
            clear hK K
            try simp only [Act.put, List.setIfInBounds_toArray, List.set_cons_zero, List.set_cons_succ]
            refine wpAnyH_takeD (i := 16) (oi := _) (d := 191) (v := ?vl16) rfl (by kernel_rfl) (by kernel_rfl) (by kernel_rfl) (by kernel_rfl) (fun _ _ _ h => h) (Or.inl ⟨by kernel_rfl, ?yl16⟩) (by assumption) ?rl16
            case yl16 =>
              intro w' hSw
              try dsimp only at hSw
              go_simp
              try with_reducible rfl
            try simp only [Act.put, List.setIfInBounds_toArray, List.set_cons_zero, List.set_cons_succ]
            refine wpAnyH_takeD (i := 17) (oi := _) (d := 192) (v := ?vl17) rfl (by kernel_rfl) (by kernel_rfl) (by kernel_rfl) (by kernel_rfl) (fun _ _ _ h => h) (Or.inl ⟨by kernel_rfl, ?yl17⟩) (by assumption) ?rl17
            case yl17 =>
              intro w' hSw
              try dsimp only at hSw
              go_simp
              try with_reducible rfl
            try simp only [Act.put, List.setIfInBounds_toArray, List.set_cons_zero, List.set_cons_succ]
            refine wpAnyH_done (by kernel_rfl) ?_ _
            go_wp2_with fail
            go_roundg (min st2.length 50 - (q + 1))
            case measure => have := Hq.out; omega
            case rel => exact ⟨q + 1, O6, F5, by have := Hq.out; omega, by go_num, HB7.out.below hb46, by rw [HLe6.out]; omega, Hb5.out.trans (hz4.trans (hb46.mono (Nat.le_trans hz6 hz4.size)))⟩
          · have hq2 : q = min st2.length 50 := by have := Hq.out; omega
            have Hq2 := Lib.hid hq2
            clear hq2
            by_cases hc2 : st2.length ≤ 50
            · have h7 : ¬ (q : Int) < (st2.length : Int) := by omega
              go_wp2_with fail
              go_ret
              exact ⟨rfl, hb5⟩
            · have h7 : (q : Int) < (st2.length : Int) := by have := Hq2.out; omega
              have h8 : ¬ (q : Int) < 50 := by have := Hq2.out; omega
              go_wp2_with fail
              go_ret
              exact ⟨rfl, hb5⟩
      · have h7 : (j : Int) < (st1.length : Int) := by have := Hj.out; omega
        have h8 : ¬ (j : Int) < 50 := by omega
        go_wp2_with fail
        refine wp_region_held_drew (S := fun _ => True) (by kernel_rfl) trivial (fun hHeld => ?_)
        refine wpAnyH_takeD (i := 0) (oi := _) (d := 152) (v := ?vG0) rfl (by kernel_rfl) (by kernel_rfl) (by kernel_rfl) (by kernel_rfl) (fun _ _ _ h => h) (Or.inl ⟨by kernel_rfl, ?yG0⟩) (by assumption) ?rG0
        case yG0 =>
          intro w' hSw
          try dsimp only at hSw
          go_simp
          try with_reducible rfl
        try simp only [Act.put, List.setIfInBounds_toArray, List.set_cons_zero, List.set_cons_succ]
        refine wpAnyH_ready (rs := [1]) (by kernel_rfl) (by simp) ?_
        refine AllReadyH.cons (o := _) rfl (fun K hK => ?_) AllReadyH.nil
        go_simp
        go_at_call 38
        refine hgr.mono ?_
        rintro e w3 ⟨rfl, hch3⟩
        refine hK.out _ _ trivial (fun _ => ?_)
        clear hK K
        try simp only [Act.put, List.setIfInBounds_toArray, List.set_cons_zero, List.set_cons_succ]
        obtain ⟨F3, hB3⟩ := hspent w3 hch3
        have hz3 := hch3.size
        have hb3 : Below w.heap.size w w3 := hbelow w3 hch3
        obtain ⟨av, vcap, la, lcap, _, _, _, hls, _, _, _, _, _, c2⟩ := hB3.rf.sl
        have kq : ∀ W, Below w3.heap.size w3 W → (Below w3.heap.size w3 W ∧ W.cell? ⟨r.rp, 2, none⟩ = some (.slice la O.live.length lcap)) := fun W hW => ⟨hW, (hW.cell hB3.rf.lt.1).trans c2⟩
        have hlive := live_both hB3 (by omega)
        have hsame : ∀ W o cap, Sl 3 cellL W o O.live → Below w3.heap.size w3 W → Calls Try.prog 21 #[.slice o O.live.length cap, .slice la O.live.length lcap] W fun e w' => e = .returned (.bool true) ∧ Below W.heap.size W w' :=
          fun W o cap h1 h2 => same_true o cap O.live la lcap W h1 (hls.below h2) (by omega)
        have hk5 := kq _ (Below.refl _ _)
        have HB3 := Lib.hid hB3
        have Hb3 := Lib.hid hb3
        have Hlo := Lib.hid hlO
        clear hB3 hb3 hls c2 hgr hspent hbelow hch3 hlO
        generalize hLe : O.live = L at *
        have HLe := Lib.hid hLe
        clear hLe
        refine wpAnyH_strong (S' := fun W => Below w3.heap.size w3 W ∧ W.cell? ⟨r.rp, 2, none⟩ = some (.slice la L.length lcap)) (fun _ _ => trivial) _ _ _ _ ?_
        refine wpAnyH_takeD (i := 2) (oi := _) (d := 154) (v := ?vH2) rfl (by kernel_rfl) (by kernel_rfl) (by kernel_rfl) (by kernel_rfl) (fun _ _ _ h => h) (Or.inl ⟨by kernel_rfl, ?yH2⟩) (by assumption) ?rH2
        case yH2 =>
          intro w' hSw
          try dsimp only at hSw
          go_simp
          try with_reducible rfl
        try simp only [Act.put, List.setIfInBounds_toArray, List.set_cons_zero, List.set_cons_succ]
        refine wpAnyH_takeD (i := 3) (oi := _) (d := 155) (v := ?vH3) rfl (by kernel_rfl) (by kernel_rfl) (by kernel_rfl) (by kernel_rfl) (fun _ _ _ h => h) (Or.inl ⟨by kernel_rfl, ?yH3⟩) (by assumption) ?rH3
        case yH3 =>
          intro w' hSw
          try dsimp only at hSw
          go_simp
          try with_reducible rfl
        try simp only [Act.put, List.setIfInBounds_toArray, List.set_cons_zero, List.set_cons_succ]
        refine wpAnyH_takeD (i := 4) (oi := _) (d := 156) (v := ?vH4) rfl (by kernel_rfl) (by kernel_rfl) (by kernel_rfl) (by kernel_rfl) (fun _ _ _ h => h) (Or.inl ⟨by kernel_rfl, ?yH4⟩) (by assumption) ?rH4
        case yH4 =>
          intro w' hSw
          try dsimp only at hSw
          go_simp
          try with_reducible rfl
        try simp only [Act.put, List.setIfInBounds_toArray, List.set_cons_zero, List.set_cons_succ]
        refine wpAnyH_takeD (i := 6) (oi := _) (d := 158) (v := ?vH6) rfl (by kernel_rfl) (by kernel_rfl) (by kernel_rfl) (by kernel_rfl) (fun _ _ _ h => h) (Or.inl ⟨by kernel_rfl, ?yH6⟩) (by assumption) ?rH6
        case yH6 =>
          intro w' hSw
          try dsimp only at hSw
          go_simp
          try with_reducible rfl
        try simp only [Act.put, List.setIfInBounds_toArray, List.set_cons_zero, List.set_cons_succ]
        refine wpAnyH_takeD (i := 7) (oi := _) (d := 159) (v := ?vH7) rfl (by kernel_rfl) (by kernel_rfl) (by kernel_rfl) (by kernel_rfl) (fun _ _ _ h => h) (Or.inl ⟨by kernel_rfl, ?yH7⟩) (by assumption) ?rH7
        case yH7 =>
          intro w' hSw
          try dsimp only at hSw
          go_simp
          try with_reducible rfl
        try simp only [Act.put, List.setIfInBounds_toArray, List.set_cons_zero, List.set_cons_succ]
        refine wpAnyH_takeD (i := 8) (oi := _) (d := 160) (v := ?vH8) rfl (by kernel_rfl) (by kernel_rfl) (by kernel_rfl) (by kernel_rfl) (fun _ _ _ h => h) (Or.inl ⟨by kernel_rfl, ?yH8⟩) (by assumption) ?rH8
        case yH8 =>
          intro w' hSw
          try dsimp only at hSw
          go_simp
          try with_reducible rfl
        try simp only [Act.put, List.setIfInBounds_toArray, List.set_cons_zero, List.set_cons_succ]
        refine wpAnyH_takeD (i := 9) (oi := _) (d := 161) (v := ?vH9) rfl (by kernel_rfl) (by kernel_rfl) (by kernel_rfl) (by kernel_rfl) (fun _ _ _ h => h) (Or.inl ⟨by kernel_rfl, ?yH9⟩) (by assumption) ?rH9
        case yH9 =>
          intro w' hSw
          try dsimp only at hSw
          go_simp
          try with_reducible rfl
        try simp only [Act.put, List.setIfInBounds_toArray, List.set_cons_zero, List.set_cons_succ]
        refine wpAnyH_ready (rs := [5]) (by kernel_rfl) (by simp) ?_
        refine AllReadyH.cons (o := _) rfl (fun K hK => ?_) AllReadyH.nil
        go_simp
        go_at_call 22
        refine hlive.mono ?_
        rintro e w4 ⟨o4, cap4, rfl, hs4, hb4⟩
        have hk4 := kq _ hb4
        refine hK.out _ _ hk4 (fun _ => ?_)
        clear hK K
        try simp only [Act.put, List.setIfInBounds_toArray, List.set_cons_zero, List.set_cons_succ]
        refine wpAnyH_ready (rs := [10]) (by kernel_rfl) (by simp) ?_
        refine AllReadyH.cons (o := _) rfl (fun K hK => ?_) AllReadyH.nil
        go_simp
        go_at_call 21
        refine (hsame _ _ _ hs4 hb4).mono ?_
        rintro e w5 ⟨rfl, hb5⟩
        have hb45 := hb4.trans (hb5.mono hb4.size)
        have hk6 := kq _ hb45
        refine hK.out _ _ hk6 (fun _ => ?_)
        clear hK K
        try simp only [Act.put, List.setIfInBounds_toArray, List.set_cons_zero, List.set_cons_succ]
        refine wpAnyH_takeD (i := 11) (oi := _) (d := 163) (v := ?vH11) rfl (by kernel_rfl) (by kernel_rfl) (by kernel_rfl) (by kernel_rfl) (fun _ _ _ h => h) (Or.inl ⟨by kernel_rfl, ?yH11⟩) (by assumption) ?rH11
        case yH11 =>
          intro w' hSw
          try dsimp only at hSw
          go_simp
          try with_reducible rfl
        try simp only [Act.put, List.setIfInBounds_toArray, List.set_cons_zero, List.set_cons_succ]
        refine wpAnyH_takeD (i := 12) (oi := _) (d := 164) (v := ?vH12) rfl (by kernel_rfl) (by kernel_rfl) (by kernel_rfl) (by kernel_rfl) (fun _ _ _ h => h) (Or.inl ⟨by kernel_rfl, ?yH12⟩) (by assumption) ?rH12
        case yH12 =>
          intro w' hSw
          try dsimp only at hSw
          go_simp
          try with_reducible rfl
        try simp only [Act.put, List.setIfInBounds_toArray, List.set_cons_zero, List.set_cons_succ]
        refine wpAnyH_done (by kernel_rfl) ?_ _
        have hbAll : Below w.heap.size w w5 := Hb3.out.trans (hb45.mono Hb3.out.size)
        have HB5 := Lib.hid (HB3.out.below hb45)
        have HbAll := Lib.hid hbAll
        clear hk6 hk5 hk4 hb4 hb5 hb45 hbAll kq hsame hlive hs4 HB3 Hb3 hHeld
        go_wp2_with fail
        go_loopg [28] (min st2.length 50) (fun g i wx => ∃ (q : Nat) (O' : Op14) (F : List Nat), q + g = min st2.length 50 ∧ i = .int .i64 q ∧ Both w.heap.size wx b (gh r F) O' ∧ O'.live.length ≤ 300 * (50 + q) ∧ Below w.heap.size w wx)
        case atStart => exact ⟨0, O, F3, by omega, rfl, HB5.out, by rw [HLe.out]; have := Hlo.out; omega, HbAll.out⟩
        case round =>
          obtain ⟨q, O5, F5, hq, rfl, hB5, hlO5, hb5⟩ := hrel
          have Hq := Lib.hid hq
          have HB6 := Lib.hid hB5
          have hz6 := hb5.size
          clear hq hB5
          by_cases hltq : q < min st2.length 50
          · have h7 : q < st2.length := by omega
            have h8 : (q : Int) < 50 := by omega
            obtain ⟨sb, so, rfl, hsb, z0, z1, z2, z3, z4, z5⟩ := hS2.at6 h7
            have d0 := (hb5.cell (p := ⟨sb, _, none⟩) hsb).trans z0
            have d1 := (hb5.cell (p := ⟨sb, _, none⟩) hsb).trans z1
            have d2 := (hb5.cell (p := ⟨sb, _, none⟩) hsb).trans z2
            have d3 := (hb5.cell (p := ⟨sb, _, none⟩) hsb).trans z3
            have d4 := (hb5.cell (p := ⟨sb, _, none⟩) hsb).trans z4
            have d5 := (hb5.cell (p := ⟨sb, _, none⟩) hsb).trans z5
            have hso := hok2 st2[q] (List.getElem_mem h7)
            clear z0 z1 z2 z3 z4 z5
            generalize st2[q] = s at *
            obtain ⟨x1, x2, x3, x4, x5, x6, x7, x8⟩ := s
            dsimp only at *
            have hst := step_any b (gh r F5) O5 x1 x2 x3 x4 x5 x6 x7 x8 wr.drew (HB6.out.below (Below.refl _ _).drew) (hso.slB (hb5.trans ((Below.refl _ _).drew.mono hb5.size))) hso.under hso.cap (by omega) (by have := hb5.size; show _ ≤ wr.heap.size; omega)
            unfold stepV at hst
            have kp : ∀ W, Below w.heap.size wr W → (Below w.heap.size wr W ∧ W.cell? ⟨sb, so + q * 6, none⟩ = some (.int .i64 x1) ∧ W.cell? ⟨sb, so + q * 6 + 1, none⟩ = some (.int .i64 x2) ∧ W.cell? ⟨sb, so + q * 6 + 2, none⟩ = some (.string x3) ∧ W.cell? ⟨sb, so + q * 6 + 3, none⟩ = some (.int .i64 x4) ∧ W.cell? ⟨sb, so + q * 6 + 4, none⟩ = some (.int .i64 x5) ∧ W.cell? ⟨sb, so + q * 6 + 5, none⟩ = some (.slice x6 x8.length x7)) := by
              intro W hW
              have hk : ∀ off, W.cell? ⟨sb, off, none⟩ = wr.cell? ⟨sb, off, none⟩ := fun off => hW.cell (p := ⟨sb, off, none⟩) hsb
              exact ⟨hW, (hk _).trans d0, (hk _).trans d1, (hk _).trans d2, (hk _).trans d3, (hk _).trans d4, (hk _).trans d5⟩
            have kD := kp _ (Below.refl w.heap.size wr).drew
            have Hb5 := Lib.hid hb5
            clear hso hb5
            go_wp2_with fail
            refine wp_region_held_drew (S := fun W => Below w.heap.size wr W ∧ W.cell? ⟨sb, so + q * 6, none⟩ = some (.int .i64 x1) ∧ W.cell? ⟨sb, so + q * 6 + 1, none⟩ = some (.int .i64 x2) ∧ W.cell? ⟨sb, so + q * 6 + 2, none⟩ = some (.string x3) ∧ W.cell? ⟨sb, so + q * 6 + 3, none⟩ = some (.int .i64 x4) ∧ W.cell? ⟨sb, so + q * 6 + 4, none⟩ = some (.int .i64 x5) ∧ W.cell? ⟨sb, so + q * 6 + 5, none⟩ = some (.slice x6 x8.length x7)) (by kernel_rfl) kD (fun hHeld => ?_)
            refine wpAnyH_takeD (i := 0) (oi := _) (d := 175) (v := ?vK0) rfl (by kernel_rfl) (by kernel_rfl) (by kernel_rfl) (by kernel_rfl) (fun _ _ _ h => h) (Or.inl ⟨by kernel_rfl, ?yK0⟩) (by assumption) ?rK0
            case yK0 =>
              intro w' hSw
              try dsimp only at hSw
              go_simp
              try with_reducible rfl
            try simp only [Act.put, List.setIfInBounds_toArray, List.set_cons_zero, List.set_cons_succ]
            refine wpAnyH_takeD (i := 1) (oi := _) (d := 176) (v := ?vK1) rfl (by kernel_rfl) (by kernel_rfl) (by kernel_rfl) (by kernel_rfl) (fun _ _ _ h => h) (Or.inl ⟨by kernel_rfl, ?yK1⟩) (by assumption) ?rK1
            case yK1 =>
              intro w' hSw
              try dsimp only at hSw
              go_simp
              try with_reducible rfl
            try simp only [Act.put, List.setIfInBounds_toArray, List.set_cons_zero, List.set_cons_succ]
            refine wpAnyH_takeD (i := 2) (oi := _) (d := 177) (v := ?vK2) rfl (by kernel_rfl) (by kernel_rfl) (by kernel_rfl) (by kernel_rfl) (fun _ _ _ h => h) (Or.inl ⟨by kernel_rfl, ?yK2⟩) (by assumption) ?rK2
            case yK2 =>
              intro w' hSw
              try dsimp only at hSw
              go_simp
              try with_reducible rfl
            try simp only [Act.put, List.setIfInBounds_toArray, List.set_cons_zero, List.set_cons_succ]
            refine wpAnyH_takeD (i := 3) (oi := _) (d := 178) (v := ?vK3) rfl (by kernel_rfl) (by kernel_rfl) (by kernel_rfl) (by kernel_rfl) (fun _ _ _ h => h) (Or.inl ⟨by kernel_rfl, ?yK3⟩) (by assumption) ?rK3
            case yK3 =>
              intro w' hSw
              try dsimp only at hSw
              go_simp
              try with_reducible rfl
            try simp only [Act.put, List.setIfInBounds_toArray, List.set_cons_zero, List.set_cons_succ]
            refine wpAnyH_takeD (i := 4) (oi := _) (d := 179) (v := ?vK4) rfl (by kernel_rfl) (by kernel_rfl) (by kernel_rfl) (by kernel_rfl) (fun _ _ _ h => h) (Or.inl ⟨by kernel_rfl, ?yK4⟩) (by assumption) ?rK4
            case yK4 =>
              intro w' hSw
              try dsimp only at hSw
              go_simp
              try with_reducible rfl
            try simp only [Act.put, List.setIfInBounds_toArray, List.set_cons_zero, List.set_cons_succ]
            refine wpAnyH_takeD (i := 5) (oi := _) (d := 180) (v := ?vK5) rfl (by kernel_rfl) (by kernel_rfl) (by kernel_rfl) (by kernel_rfl) (fun _ _ _ h => h) (Or.inl ⟨by kernel_rfl, ?yK5⟩) (by assumption) ?rK5
            case yK5 =>
              intro w' hSw
              try dsimp only at hSw
              go_simp
              try with_reducible rfl
            try simp only [Act.put, List.setIfInBounds_toArray, List.set_cons_zero, List.set_cons_succ]
            refine wpAnyH_ready (rs := [6]) (by kernel_rfl) (by simp) ?_
            refine AllReadyH.cons (o := _) rfl (fun K hK => ?_) AllReadyH.nil
            go_simp
            go_at_call 20
            refine hst.mono ?_
            rintro e w4 ⟨rfl, O6, hB7, hb4, hl4⟩
            have hz4 : Below w.heap.size wr w4 := ((Below.refl w.heap.size wr).drew).trans hb4
            have hk4 := kp _ hz4
            refine hK.out _ _ hk4 (fun _ => ?_)
            clear hK K
            try simp only [Act.put, List.setIfInBounds_toArray, List.set_cons_zero, List.set_cons_succ]
            have HB7 := Lib.hid hB7
            clear hst hB7
            obtain ⟨av, vcap, la, lcap, _, _, _, hls, _, _, _, _, _, c2⟩ := HB7.out.rf.sl
            have kq : ∀ W, Below w4.heap.size w4 W → ((Below w.heap.size wr W ∧ W.cell? ⟨sb, so + q * 6, none⟩ = some (.int .i64 x1) ∧ W.cell? ⟨sb, so + q * 6 + 1, none⟩ = some (.int .i64 x2) ∧ W.cell? ⟨sb, so + q * 6 + 2, none⟩ = some (.string x3) ∧ W.cell? ⟨sb, so + q * 6 + 3, none⟩ = some (.int .i64 x4) ∧ W.cell? ⟨sb, so + q * 6 + 4, none⟩ = some (.int .i64 x5) ∧ W.cell? ⟨sb, so + q * 6 + 5, none⟩ = some (.slice x6 x8.length x7)) ∧ W.cell? ⟨r.rp, 2, none⟩ = some (.slice la O6.live.length lcap)) := fun W hW => ⟨kp _ (hz4.trans (hW.mono (Nat.le_trans hz6 hz4.size))), (hW.cell HB7.out.rf.lt.1).trans c2⟩
            have hlive := live_both HB7.out (by omega)
            have hsame : ∀ W o cap, Sl 3 cellL W o O6.live → Below w4.heap.size w4 W → Calls Try.prog 21 #[.slice o O6.live.length cap, .slice la O6.live.length lcap] W fun e w' => e = .returned (.bool true) ∧ Below W.heap.size W w' :=
              fun W o cap h1 h2 => same_true o cap O6.live la lcap W h1 (hls.below h2) (by omega)
            have hk5 := kq _ (Below.refl _ _)
            generalize hLe6 : O6.live = L6 at *
            have HLe6 := Lib.hid hLe6
            clear hls c2 kp hk4 kD hLe6
            refine wpAnyH_strong (S' := fun W => (Below w.heap.size wr W ∧ W.cell? ⟨sb, so + q * 6, none⟩ = some (.int .i64 x1) ∧ W.cell? ⟨sb, so + q * 6 + 1, none⟩ = some (.int .i64 x2) ∧ W.cell? ⟨sb, so + q * 6 + 2, none⟩ = some (.string x3) ∧ W.cell? ⟨sb, so + q * 6 + 3, none⟩ = some (.int .i64 x4) ∧ W.cell? ⟨sb, so + q * 6 + 4, none⟩ = some (.int .i64 x5) ∧ W.cell? ⟨sb, so + q * 6 + 5, none⟩ = some (.slice x6 x8.length x7)) ∧ W.cell? ⟨r.rp, 2, none⟩ = some (.slice la L6.length lcap)) (fun _ h => h.1) _ _ _ _ ?_
            refine wpAnyH_takeD (i := 7) (oi := _) (d := 182) (v := ?vL7) rfl (by kernel_rfl) (by kernel_rfl) (by kernel_rfl) (by kernel_rfl) (fun _ _ _ h => h) (Or.inl ⟨by kernel_rfl, ?yL7⟩) (by assumption) ?rL7
            case yL7 =>
              intro w' hSw
              try dsimp only at hSw
              go_simp
              try with_reducible rfl
            try simp only [Act.put, List.setIfInBounds_toArray, List.set_cons_zero, List.set_cons_succ]
            refine wpAnyH_takeD (i := 8) (oi := _) (d := 183) (v := ?vL8) rfl (by kernel_rfl) (by kernel_rfl) (by kernel_rfl) (by kernel_rfl) (fun _ _ _ h => h) (Or.inl ⟨by kernel_rfl, ?yL8⟩) (by assumption) ?rL8
            case yL8 =>
              intro w' hSw
              try dsimp only at hSw
              go_simp
              try with_reducible rfl
            try simp only [Act.put, List.setIfInBounds_toArray, List.set_cons_zero, List.set_cons_succ]
            refine wpAnyH_takeD (i := 9) (oi := _) (d := 184) (v := ?vL9) rfl (by kernel_rfl) (by kernel_rfl) (by kernel_rfl) (by kernel_rfl) (fun _ _ _ h => h) (Or.inl ⟨by kernel_rfl, ?yL9⟩) (by assumption) ?rL9
            case yL9 =>
              intro w' hSw
              try dsimp only at hSw
              go_simp
              try with_reducible rfl
            try simp only [Act.put, List.setIfInBounds_toArray, List.set_cons_zero, List.set_cons_succ]
            refine wpAnyH_takeD (i := 11) (oi := _) (d := 186) (v := ?vL11) rfl (by kernel_rfl) (by kernel_rfl) (by kernel_rfl) (by kernel_rfl) (fun _ _ _ h => h) (Or.inl ⟨by kernel_rfl, ?yL11⟩) (by assumption) ?rL11
            case yL11 =>
              intro w' hSw
              try dsimp only at hSw
              go_simp
              try with_reducible rfl
            try simp only [Act.put, List.setIfInBounds_toArray, List.set_cons_zero, List.set_cons_succ]
            refine wpAnyH_takeD (i := 12) (oi := _) (d := 187) (v := ?vL12) rfl (by kernel_rfl) (by kernel_rfl) (by kernel_rfl) (by kernel_rfl) (fun _ _ _ h => h) (Or.inl ⟨by kernel_rfl, ?yL12⟩) (by assumption) ?rL12
            case yL12 =>
              intro w' hSw
              try dsimp only at hSw
              go_simp
              try with_reducible rfl
            try simp only [Act.put, List.setIfInBounds_toArray, List.set_cons_zero, List.set_cons_succ]
            refine wpAnyH_takeD (i := 13) (oi := _) (d := 188) (v := ?vL13) rfl (by kernel_rfl) (by kernel_rfl) (by kernel_rfl) (by kernel_rfl) (fun _ _ _ h => h) (Or.inl ⟨by kernel_rfl, ?yL13⟩) (by assumption) ?rL13
            case yL13 =>
              intro w' hSw
              try dsimp only at hSw
              go_simp
              try with_reducible rfl
            try simp only [Act.put, List.setIfInBounds_toArray, List.set_cons_zero, List.set_cons_succ]
            refine wpAnyH_takeD (i := 14) (oi := _) (d := 189) (v := ?vL14) rfl (by kernel_rfl) (by kernel_rfl) (by kernel_rfl) (by kernel_rfl) (fun _ _ _ h => h) (Or.inl ⟨by kernel_rfl, ?yL14⟩) (by assumption) ?rL14
            case yL14 =>
              intro w' hSw
              try dsimp only at hSw
              go_simp
              try with_reducible rfl
            try simp only [Act.put, List.setIfInBounds_toArray, List.set_cons_zero, List.set_cons_succ]
            refine wpAnyH_ready (rs := [10]) (by kernel_rfl) (by simp) ?_
            refine AllReadyH.cons (o := _) rfl (fun K hK => ?_) AllReadyH.nil
            go_simp
            go_at_call 22
            refine hlive.mono ?_
            rintro e w5 ⟨o5, cap5, rfl, hs5, hb5⟩
            have hk6 := kq _ hb5
            refine hK.out _ _ hk6 (fun _ => ?_)
            clear hK K
            try simp only [Act.put, List.setIfInBounds_toArray, List.set_cons_zero, List.set_cons_succ]
            refine wpAnyH_ready (rs := [15]) (by kernel_rfl) (by simp) ?_
            refine AllReadyH.cons (o := _) rfl (fun K hK => ?_) AllReadyH.nil
            go_simp
            go_at_call 21
            refine (hsame _ _ _ hs5 hb5).mono ?_
            rintro e w6 ⟨rfl, hb6⟩
            have hb46 := hb5.trans (hb6.mono hb5.size)
            have hk7 := kq _ hb46
            refine hK.out _ _ hk7 (fun _ => ?_)
            clear hK K
            try simp only [Act.put, List.setIfInBounds_toArray, List.set_cons_zero, List.set_cons_succ]
            refine wpAnyH_takeD (i := 16) (oi := _) (d := 191) (v := ?vL16) rfl (by kernel_rfl) (by kernel_rfl) (by kernel_rfl) (by kernel_rfl) (fun _ _ _ h => h) (Or.inl ⟨by kernel_rfl, ?yL16⟩) (by assumption) ?rL16
            case yL16 =>
              intro w' hSw
              try dsimp only at hSw
              go_simp
              try with_reducible rfl
            try simp only [Act.put, List.setIfInBounds_toArray, List.set_cons_zero, List.set_cons_succ]
            refine wpAnyH_takeD (i := 17) (oi := _) (d := 192) (v := ?vL17) rfl (by kernel_rfl) (by kernel_rfl) (by kernel_rfl) (by kernel_rfl) (fun _ _ _ h => h) (Or.inl ⟨by kernel_rfl, ?yL17⟩) (by assumption) ?rL17
            case yL17 =>
              intro w' hSw
              try dsimp only at hSw
              go_simp
              try with_reducible rfl
            try simp only [Act.put, List.setIfInBounds_toArray, List.set_cons_zero, List.set_cons_succ]
            refine wpAnyH_done (by kernel_rfl) ?_ _
            go_wp2_with fail
            go_roundg (min st2.length 50 - (q + 1))
            case measure => have := Hq.out; omega
            case rel => exact ⟨q + 1, O6, F5, by have := Hq.out; omega, by go_num, HB7.out.below hb46, by rw [HLe6.out]; omega, Hb5.out.trans (hz4.trans (hb46.mono (Nat.le_trans hz6 hz4.size)))⟩
          · have hq2 : q = min st2.length 50 := by have := Hq.out; omega
            have Hq2 := Lib.hid hq2
            clear hq2
            by_cases hc2 : st2.length ≤ 50
            · have h7 : ¬ (q : Int) < (st2.length : Int) := by omega
              go_wp2_with fail
              go_ret
              exact ⟨rfl, hb5⟩
            · have h7 : (q : Int) < (st2.length : Int) := by have := Hq2.out; omega
              have h8 : ¬ (q : Int) < 50 := by have := Hq2.out; omega
              go_wp2_with fail
              go_ret
              exact ⟨rfl, hb5⟩

theorem book_any (A : Option Addr) (cap : Nat) (vs : List View) (n : Int) (S1 : Option Addr) (cap1 : Nat) (st1 : List St) (S2 : Option Addr) (cap2 : Nat) (st2 : List St) (w : World) (hs : Sl 3 viewL w A vs) (hS1 : Sl 6 stL w S1 st1) (hok1 : ∀ s ∈ st1, StOk w s) (hS2 : Sl 6 stL w S2 st2) (hok2 : ∀ s ∈ st2, StOk w s) :
    Calls Try.prog 12 #[.slice A vs.length cap, .int .i64 n, .slice S1 st1.length cap1, .slice S2 st2.length cap2] w fun e w' => e = .returned (.bool true) ∧ Below w.heap.size w w' := by
  by_cases he : newE vs n = 0
  · exact book_ok A cap vs n S1 cap1 st1 S2 cap2 st2 w hs he hS1 hok1 hS2 hok2
  · exact book_bad A cap vs n _ _ w hs he
end Go.Proofs.Ytheimbhnckaonaa
