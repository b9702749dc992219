/- The keys of a set of numbers, collected. -/
import Derived.Test.YtaicecnfodhlcaaGreatJ10
import Derived.Test.YtaicecnfodhlcaaGreatShelf3
import Derived.Shelf.SlIterI.Collect
import Derived.Shelf.SlIterI.Keys
import Derived.Shelf.SlIterI.Nil
import Derived.Test.YtaicecnfodhlcaaGreatJ16
set_option linter.unusedVariables false
set_option linter.unusedSimpArgs false
namespace Go.Proofs.YtaicecnfodhlcaaGreat
open Go.RowKit Go.Deep Go.Maps Go.WideElems Go.WideShapes Go.ChangeShapes

abbrev anyR : Value → Option (DataW Unit × List MemPlace) := fun _ => some (.nil, [])
theorem keyOf_int {n : Int} (hn : -9223372036854775808 ≤ n ∧ n ≤ 9223372036854775807) : keyOf Tryz.prog 3 (.int .i64 n) = some (.int .i64 n) := by
  have hmin : IntKind.i64.min = -9223372036854775808 := by decide
  have hmax : IntKind.i64.max = 9223372036854775807 := by decide
  have hw : (Lit.int .i64 n).wf = true := by simp [Lit.wf, hmin, hmax]; omega
  simp [keyOf, mapKey, Tryz.underlying3, hw]
def numOf : Value → Int
  | .int _ n => n
  | _ => 0
set_option maxRecDepth 20000 in
theorem own_set {w : World} {b : Nat} {m : List (Int × Value)} (h : MapIs intV w b m) (hr : ∀ p ∈ m, -9223372036854775808 ≤ p.1 ∧ p.1 ≤ 9223372036854775807) (hl : m.length ≤ maxLen) :
    ∃ D : DataW Unit, w.ownsMap Tryz.prog 3 anyR b m.length D ∧ (intKeys D).Perm (m.map (·.1)) ∧ Maps.size D = m.length := by
  obtain ⟨hn, es, clock, hb, hk, hbn, hbl⟩ := h
  have hkeys := keys_of hk
  have hsz : es.size = m.length := by
    have := congrArg List.length hk
    simpa using this
  have hrd : ∀ x ∈ es.toList, ∃ n : Int, x.key = .int .i64 n ∧ rd Tryz.prog 3 anyR x = some (.int .i64 n, .nil) := by
    intro x hx
    have h1 : x.key ∈ es.toList.map (·.key) := List.mem_map.2 ⟨x, hx, rfl⟩
    rw [hkeys] at h1
    obtain ⟨n, hn1, hn2⟩ := List.mem_map.1 h1
    obtain ⟨p, hp, rfl⟩ := List.mem_map.1 hn1
    refine ⟨p.1, hn2.symm, ?_⟩
    unfold rd
    rw [← hn2, keyOf_int (hr p hp)]
    rfl
  have hrg : ∀ x ∈ es.toList, Go.intOf (rg Tryz.prog 3 anyR x).1 = numOf x.key := by
    intro x hx
    obtain ⟨n, h1, h2⟩ := hrd x hx
    unfold rg
    rw [h2, h1]
    rfl
  refine ⟨.map ((es.toList.map (rg Tryz.prog 3 anyR)).foldr DataW.insert []), ⟨es, clock, hb, ⟨by rw [hsz]; exact hl, ⟨hbl, hbn, ?_⟩, fun x hx => ?_⟩, Nat.le_of_eq hsz, rfl⟩, ?_, ?_⟩
  · rw [hkeys]
    unfold List.Nodup at *
    rw [List.pairwise_map]
    exact hn.imp fun hne e => hne (by injection e)
  · obtain ⟨n, _, h2⟩ := hrd x hx
    exact ⟨_, h2⟩
  · show (List.map (fun p => Go.intOf p.1) ((es.toList.map (rg Tryz.prog 3 anyR)).foldr DataW.insert [])).Perm _
    refine ((sorted_perm _).map _).trans ?_
    rw [List.map_map]
    have e1 : es.toList.map ((fun p : Lit × DataW Unit => Go.intOf p.1) ∘ rg Tryz.prog 3 anyR) = m.map (·.1) := by
      have e2 : es.toList.map ((fun p : Lit × DataW Unit => Go.intOf p.1) ∘ rg Tryz.prog 3 anyR) = (es.toList.map (·.key)).map numOf := by
        rw [List.map_map]
        refine List.map_congr_left fun x hx => ?_
        have h9 := hrg x hx
        simp only [Function.comp]
        exact h9
      rw [e2, hkeys, List.map_map]
      have e3 : (m.map (·.1)).map (numOf ∘ intV) = (m.map (·.1)).map id := List.map_congr_left fun x _ => rfl
      rw [e3, List.map_id]
    rw [e1]
  · show ((es.toList.map (rg Tryz.prog 3 anyR)).foldr DataW.insert []).length = _
    rw [(sorted_perm _).length_eq, List.length_map, Array.length_toList, hsz]
theorem flat_i64 : ∀ ss : List Int, ss.flatMap i64L = ss.map encZ
  | [] => rfl
  | a :: t => by rw [List.flatMap_cons, List.map_cons, flat_i64 t]; rfl
theorem mkeys_any (mb : Option Nat) (w : World) : Calls Tryz.prog 73 #[.map mb] w fun e w' => e = .returned (.func (.func 110) #[] #[.pointer (some ⟨w.heap.size, 0, none⟩)]) ∧ w' = w.alloc (.cells #[.map mb] 141) :=
  (AnyZI.keys_in Tryz.keysHolds Fence.wide 5 trivial rfl mb w).calls (fun k => room_wide k)
theorem collect_set {w : World} {b g : Nat} {m : List (Int × Value)} (h : MapIs intV w b m) (hr : ∀ p ∈ m, -9223372036854775808 ≤ p.1 ∧ p.1 ≤ 9223372036854775807) (hl : m.length ≤ 1000000000) (hg : w.cell? ⟨g, 0, none⟩ = some (.map (some b))) (hgl : g < w.heap.size) :
    Calls Tryz.prog 72 #[.func (.func 110) #[] #[.pointer (some ⟨g, 0, none⟩)]] w fun e w' => ∃ v ss, e = .returned v ∧ ss.Perm (m.map (·.1)) ∧ Own 3 1 i64L w.heap.size w' v ss ∧ Below w.heap.size w w' := by
  obtain ⟨D, hown, hp, hs⟩ := own_set h hr (by unfold maxLen; omega)
  have hseq := AnyZI.keys_gives { Tryz.keysHolds with } Fence.wide 3 trivial rfl (by decide) g b m.length D w hgl hg hown
  rw [hs] at hseq
  have hc := (AnyZI.collect_in Tryz.collectInts Fence.wide 5 trivial trivial rfl (by decide) 110 #[.pointer (some ⟨g, 0, none⟩)] trivial (enters_of Tryz.func110 (by kernel_rfl) rfl) (fun ss => ss.Perm (intKeys D)) m.length (by unfold maxLen; omega) (by omega) w hseq).calls (fun k => room_wide k)
  change Calls Tryz.prog 72 _ _ _ at hc
  refine hc.mono ?_
  rintro e w' ⟨v, ss, he, hps, ho, _, hb⟩
  refine ⟨v, ss, he, hps.trans hp, ?_, hb⟩
  unfold Own
  rw [flat_i64]
  exact ho
theorem collect_nil {w : World} {g : Nat} (hg : w.cell? ⟨g, 0, none⟩ = some (.map none)) (hgl : g < w.heap.size) :
    Calls Tryz.prog 72 #[.func (.func 110) #[] #[.pointer (some ⟨g, 0, none⟩)]] w fun e w' => ∃ v ss, e = .returned v ∧ ss = [] ∧ Own 3 1 i64L w.heap.size w' v ss ∧ Below w.heap.size w w' := by
  have hseq := AnyZI.keys_gives_nil { Tryz.keysHolds with } Fence.wide 3 trivial rfl g w hgl hg
  have hc := (AnyZI.collect_in Tryz.collectInts Fence.wide 5 trivial trivial rfl (by decide) 110 #[.pointer (some ⟨g, 0, none⟩)] trivial (enters_of Tryz.func110 (by kernel_rfl) rfl) (fun ss => ss = []) 0 (by unfold maxLen; omega) (by omega) w hseq).calls (fun k => room_wide k)
  change Calls Tryz.prog 72 _ _ _ at hc
  refine hc.mono ?_
  rintro e w' ⟨v, ss, he, hps, ho, _, hb⟩
  refine ⟨v, ss, he, hps, ?_, hb⟩
  unfold Own
  rw [flat_i64]
  exact ho
end Go.Proofs.YtaicecnfodhlcaaGreat
/- Leave. -/
set_option linter.unusedVariables false
set_option linter.unusedSimpArgs false
namespace Go.Proofs.YtaicecnfodhlcaaGreat
open Go.RowKit Go.Deep

def Mst.drops (S : Mst) (s : Int) (es : List Int) : Mst := es.foldl (fun S e => S.drop s e) S
theorem Mst.drop_holds (S : Mst) (s e s' e' : Int) : (S.drop s e).holds s' e' = (S.holds s' e' && !(decide (s' = s) && decide (e' = e))) := by
  unfold Mst.drop
  split <;> rfl
theorem Mst.drops_snoc (S : Mst) (s : Int) (es : List Int) (e : Int) : S.drops s (es ++ [e]) = (S.drops s es).drop s e := by simp [Mst.drops]
theorem Mst.drops_holds (S : Mst) (s : Int) (es : List Int) (s' e' : Int) : (S.drops s es).holds s' e' = (S.holds s' e' && !(decide (s' = s) && decide (e' ∈ es))) := by
  induction es generalizing S with
  | nil => simp [Mst.drops]
  | cons e t ih =>
    show ((S.drop s e).drops s t).holds s' e' = _
    rw [ih, Mst.drop_holds]
    by_cases h1 : s' = s <;> by_cases h2 : e' = e <;> simp [h1, h2]
/-- Collect of a session's epochs. -/
theorem held_list {w : World} {B : MB} {S : Mst} (h : IsModel w B S) (s : Int) (g : Nat) (hg : w.cell? ⟨g, 0, none⟩ = some (.map (B.hk s))) (hgl : g < w.heap.size) (hn : S.now ≤ 1000000000) :
    Calls Tryz.prog 72 #[.func (.func 110) #[] #[.pointer (some ⟨g, 0, none⟩)]] w fun e w' => ∃ v ss, e = .returned v ∧ ss.Nodup ∧ (∀ x, x ∈ ss ↔ S.holds s x = true) ∧ ss.length = S.heldN s ∧ Own 3 1 i64L w.heap.size w' v ss ∧ Below w.heap.size w w' := by
  obtain ⟨_, m, hm, h1, h2⟩ := h.holds
  cases hs : B.hk s with
  | none =>
    rw [hs] at hg
    refine (collect_nil hg hgl).mono ?_
    rintro e w' ⟨v, ss, he, rfl, ho, hb⟩
    refine ⟨v, [], he, List.nodup_nil, fun x => ?_, ?_, ho, hb⟩
    · rw [(h2 s hs).2 x]; simp
    · have h3 := h.holds.len s (fun e he => ⟨(h.inv.old s e he).2.2.1, (h.inv.old s e he).2.2.2⟩) 3
      rw [hs, len_nilset] at h3
      have h4 : (Value.int IntKind.i64 0) = .int .i64 (S.heldN s) := by injection h3
      injection h4 with _ h5
      show 0 = S.heldN s
      omega
  | some b =>
    rw [hs] at hg
    obtain ⟨m2, hm2, h3, h4⟩ := (h1 s b hs).2.1
    have hlen := HasSet.len ⟨m2, hm2, h3, h4⟩ (fun e he => ⟨(h.inv.old s e he).2.2.1, (h.inv.old s e he).2.2.2⟩) 3
    rw [MapIs.len Tryz.underlying141 hm2] at hlen
    have hml : m2.length = S.heldN s := by
      have h5 : (Value.int IntKind.i64 m2.length) = .int .i64 (S.heldN s) := by injection hlen
      injection h5 with _ h6
      omega
    have hle : S.heldN s ≤ S.now.toNat := by
      unfold Mst.heldN
      exact Nat.le_trans (List.length_filter_le _ _) (by simp)
    have hkey : ∀ p ∈ m2, S.holds s p.1 = true := fun p hp => (h4 p.1).2 (List.mem_map.2 ⟨p, hp, rfl⟩)
    refine (collect_set hm2 (fun p hp => by have := h.inv.old s p.1 (hkey p hp); have := h.inv.now.2; omega) (by omega) hg hgl).mono ?_
    rintro e w' ⟨v, ss, he, hp, ho, hb⟩
    refine ⟨v, ss, he, hp.nodup_iff.2 hm2.nd, fun x => ?_, ?_, ho, hb⟩
    · rw [hp.mem_iff]; exact (h4 x).symm
    · rw [hp.length_eq, List.length_map, hml]
set_option maxRecDepth 100000 in
set_option maxHeartbeats 4000000 in
theorem leave_any {w : World} {B : MB} {S : Mst} (h : IsModel w B S) (s : Int) (hn : S.now ≤ 1000000000) :
    Calls Tryz.prog 24 #[.pointer (some ⟨B.mp, 0, none⟩), .int .i64 s] w fun e w' => e = .returned (.int .i64 (S.heldN s)) ∧ ∃ ss : List Int, ss.Nodup ∧ (∀ x, x ∈ ss ↔ S.holds s x = true) ∧ IsModel w' B (S.drops s ss) ∧ Turn w w' B B := by
  have c17 := h.parts.cell17
  have hg := h.holds.get s
  have hb1 : Below w.heap.size w (w.alloc (.cells #[.map (B.hk s)] 141)) := (Below.refl _ _).alloc (Nat.le_refl _) _
  have hli := held_list (h.below hb1) s w.heap.size (cell_blk (blk_at rfl) 0) (by simp) hn
  have hke := mkeys_any (B.hk s) w
  have Hh := Lib.hid h
  have Hb1 := Lib.hid hb1
  have Hli := Lib.hid hli
  clear h hb1 hli
  generalize B.hk s = hb at *
  go_enter Tryz.func24, Tryz.ntmps24
  go_wp2_with fail
  refine hke.mono ?_
  rintro e w1 ⟨rfl, rfl⟩
  clear hke
  go_wp2_with fail
  refine Hli.out.mono ?_
  rintro e w2 ⟨v, ss, rfl, hnd, hmem, hlen, ho, hb2⟩
  obtain ⟨oa, oc, rfl, _⟩ := ho.sl fun _ => rfl
  have hbb := Hb1.out.trans (hb2.mono Hb1.out.size)
  have hM2 := Hh.out.below hbb
  have Hbb := Lib.hid hbb
  have HM2 := Lib.hid hM2
  have Ho := Lib.hid ho
  have Hnd := Lib.hid hnd
  have Hmem := Lib.hid hmem
  have Hlen := Lib.hid hlen
  have hsl : ss.length ≤ 1000000000 := by
    rw [hlen]
    unfold Mst.heldN
    refine Nat.le_trans (List.length_filter_le _ _) ?_
    simp
    omega
  clear hbb hM2 ho hnd hmem hlen hb2 hg c17
  go_wp2_with fail
  go_loopg [7, 18] ss.length (fun g _ s18 wr => ∃ j : Nat, j + g = ss.length ∧ s18 = .int .i64 j ∧ IsModel wr B (S.drops s (ss.take j)) ∧ Turn w2 wr B B)
  case atStart => exact ⟨0, by omega, rfl, HM2.out, Turn.of_below B (Below.refl _ _)⟩
  case round =>
    obtain ⟨j, hj, rfl, hM, hT⟩ := hrel
    have Hj := Lib.hid hj
    have HM := Lib.hid hM
    have HT := Lib.hid hT
    clear hj hM hT
    by_cases hlt : j < ss.length
    · have hor : Own 3 1 i64L (w.alloc (.cells #[.map hb] 141)).heap.size wr (.slice oa ss.length oc) ss := Ho.out.keep fun g hg hg2 => HT.out.chg.block g hg2 (fun hn => hn (by
        refine Decidable.byContradiction fun hn => ?_
        have h1 := Hh.out.lt g hn
        have h2 := (Ho.out.ge hg).1
        simp at h2
        omega))
      obtain ⟨ob, oo, rfl, hob, h0⟩ := (hor.sl0 fun _ => rfl).at1 hlt rfl
      rw [Nat.mul_one] at h0
      have hse : (S.drops s (ss.take j)).holds s ss[j] = true := by
        rw [Mst.drops_holds, (Hmem.out ss[j]).1 (List.getElem_mem hlt)]
        have hnm : ss[j] ∉ ss.take j := by
          intro hm
          obtain ⟨q, hq, e⟩ := List.getElem_of_mem hm
          rw [List.getElem_take] at e
          have hq' : q < j := by rw [List.length_take] at hq; omega
          exact absurd ((List.getElem_inj Hnd.out).1 e) (by omega)
        simp [hnm]
      have hdr := drop_parts HM.out s ss[j] hse
      rw [← Mst.drops_snoc, show ss.take j ++ [ss[j]] = ss.take (j + 1) from (List.take_succ_eq_append_getElem hlt).symm] at hdr
      have Hdr := Lib.hid hdr
      clear hse hdr hor
      generalize hx : ss[j] = x at *
      clear hx
      go_wp2_with fail
      refine Hdr.out.mono ?_
      rintro e w5 ⟨rfl, hM5, hT5⟩
      have H5 := Lib.hid (And.intro hM5 (HT.out.trans hT5))
      clear hM5 hT5
      go_wp2_with fail
      go_roundg (gk - 1)
      case measure => have := Hj.out; omega
      case rel => exact ⟨j + 1, by have := Hj.out; omega, by go_num, H5.out.1, H5.out.2⟩
    · have hje : ss.take j = ss := List.take_of_length_le (by omega)
      have hM := HM.out
      rw [hje] at hM
      have HM9 := Lib.hid hM
      clear hM hje
      go_wp2_with fail
      go_ret
      refine ⟨?_, ss, Hnd.out, Hmem.out, HM9.out, (Turn.of_below B Hbb.out).trans HT.out⟩
      show Ending.returned (.int .i64 (ss.length : Int)) = _
      rw [Hlen.out]
end Go.Proofs.YtaicecnfodhlcaaGreat
/- Leave: the state behind it, whatever the order. -/
set_option linter.unusedVariables false
set_option linter.unusedSimpArgs false
namespace Go.Proofs.YtaicecnfodhlcaaGreat
open Go.RowKit Go.Deep

/-- Does a session other than s hold the epoch? -/
def Mst.others (S : Mst) (s e : Int) : Bool := (S.letGo s e).anyHolds e
theorem Mst.others_eq {S T : Mst} (s e : Int) (h : ∀ s', s' ≠ s → T.holds s' e = S.holds s' e) : T.others s e = S.others s e := by
  unfold Mst.others Mst.anyHolds
  congr 1
  funext i
  show (T.holds (i : Int) e && !(decide ((i : Int) = s) && decide (e = e))) = (S.holds (i : Int) e && !(decide ((i : Int) = s) && decide (e = e)))
  by_cases hi : (i : Int) = s
  · simp [hi]
  · rw [h _ hi]
theorem Mst.drop_seals (S : Mst) (s e e' : Int) : (S.drop s e).seals e' = if e' = e ∧ S.others s e = false then none else S.seals e' := by
  unfold Mst.drop Mst.others
  cases h : (S.letGo s e).anyHolds e with
  | true => simp
  | false => simp
theorem Mst.drops_seals (S : Mst) (s : Int) (es : List Int) (e' : Int) : (S.drops s es).seals e' = if e' ∈ es ∧ S.others s e' = false then none else S.seals e' := by
  induction es generalizing S with
  | nil => simp [Mst.drops]
  | cons e t ih =>
    show ((S.drop s e).drops s t).seals e' = _
    rw [ih, Mst.drop_seals, Mst.others_eq (S := S) s e' (fun s' hs => by rw [Mst.drop_holds]; simp [hs])]
    by_cases h1 : e' = e
    · subst h1
      by_cases h2 : S.others s e' = false <;> simp [h2]
    · simp [h1]
theorem Mst.drop_rest (S : Mst) (s e : Int) : (S.drop s e).cfg = S.cfg ∧ (S.drop s e).ms = S.ms ∧ (S.drop s e).told = S.told ∧ (S.drop s e).L = S.L ∧ (S.drop s e).now = S.now ∧ (S.drop s e).cnt = S.cnt := by
  unfold Mst.drop
  split <;> exact ⟨rfl, rfl, rfl, rfl, rfl, rfl⟩
theorem Mst.drops_rest (S : Mst) (s : Int) (es : List Int) : (S.drops s es).cfg = S.cfg ∧ (S.drops s es).ms = S.ms ∧ (S.drops s es).told = S.told ∧ (S.drops s es).L = S.L ∧ (S.drops s es).now = S.now ∧ (S.drops s es).cnt = S.cnt := by
  induction es generalizing S with
  | nil => exact ⟨rfl, rfl, rfl, rfl, rfl, rfl⟩
  | cons e t ih =>
    have h1 := ih (S.drop s e)
    have h2 := S.drop_rest s e
    exact ⟨h1.1.trans h2.1, h1.2.1.trans h2.2.1, h1.2.2.1.trans h2.2.2.1, h1.2.2.2.1.trans h2.2.2.2.1, h1.2.2.2.2.1.trans h2.2.2.2.2.1, h1.2.2.2.2.2.trans h2.2.2.2.2.2⟩
/-- A session leaves. -/
def Mst.leave (S : Mst) (s : Int) : Mst := { S with holds := fun s' e' => S.holds s' e' && !decide (s' = s), seals := fun e' => if S.holds s e' = true ∧ S.others s e' = false then none else S.seals e' }
theorem Mst.drops_leave (S : Mst) (s : Int) (es : List Int) (h : ∀ x, x ∈ es ↔ S.holds s x = true) : S.drops s es = S.leave s := by
  obtain ⟨h1, h2, h3, h4, h5, h6⟩ := S.drops_rest s es
  have h7 : (S.drops s es).holds = (S.leave s).holds := by
    funext s' e'
    rw [Mst.drops_holds]
    show _ = (S.holds s' e' && !decide (s' = s))
    by_cases hs : s' = s
    · subst hs
      by_cases he : S.holds s' e' = true
      · simp [he, (h e').2 he]
      · simp [he]
    · simp [hs]
  have h8 : (S.drops s es).seals = (S.leave s).seals := by
    funext e'
    rw [Mst.drops_seals]
    show _ = if S.holds s e' = true ∧ S.others s e' = false then none else S.seals e'
    by_cases hh : S.holds s e' = true
    · simp [hh, (h e').2 hh]
    · have hm : e' ∉ es := fun hm => hh ((h e').1 hm)
      simp [hh, hm]
  generalize S.drops s es = T at *
  obtain ⟨c, ms, told, L, se, ho, nw, ct⟩ := T
  dsimp only at *
  subst h1 h2 h3 h4 h5 h6 h7 h8
  rfl
/-- Leave, the state written out. -/
theorem leave_full {w : World} {B : MB} {S : Mst} (h : IsModel w B S) (s : Int) (hn : S.now ≤ 1000000000) :
    Calls Tryz.prog 24 #[.pointer (some ⟨B.mp, 0, none⟩), .int .i64 s] w fun e w' => e = .returned (.int .i64 (S.heldN s)) ∧ IsModel w' B (S.leave s) ∧ Turn w w' B B := by
  refine (leave_any h s hn).mono ?_
  rintro e w' ⟨he, ss, _, hm, hM, hT⟩
  rw [Mst.drops_leave S s ss hm] at hM
  exact ⟨he, hM, hT⟩
end Go.Proofs.YtaicecnfodhlcaaGreat
