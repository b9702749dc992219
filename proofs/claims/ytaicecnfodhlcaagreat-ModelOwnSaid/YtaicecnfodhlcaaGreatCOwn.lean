/- An append that stays in its row or moves into a new block. -/
import Derived.Test.YtaicecnfodhlcaaGreatJ21
import Derived.Maps.AppendAt
import Derived.Test.YtaicecnfodhlcaaGreatJ03
import Derived.Deep.MidRow
import Derived.Test.YtaicecnfodhlcaaGreatJ22
import Derived.Test.YtaicecnfodhlcaaGreatJ10
import Derived.Test.YtaicecnfodhlcaaGreatJ23
import Derived.Test.YtaicecnfodhlcaaGreatJ20
import Derived.Deep.CutBlock
import Derived.Deep.DeepCutAuto
set_option linter.unusedVariables false
set_option linter.unusedSimpArgs false
namespace Go.Proofs.YtaicecnfodhlcaaGreat
open Go.RowKit

/-- append of at least one element: the new slice lies in the old row, or in a new block and nothing that was there has turned. -/
theorem run_app2 {P : Program} (w : World) (base t ty e : Nat) (i : TypeInfo) (z : Value) (size bytes : Nat) (ht : P.underlying t = some (.slice e)) (hi : P.info? e = some i) (hz : i.zero = some z)
    (hsize : i.size = size) (hby : i.bytes = bytes) (hzs : z.cells.size = size) (hsz : 0 < size) (v : Value) (n : Nat) (xs : List Value) (hown : w.ownsRow base e size v n xs)
    (a : Addr) (m c : Nat) (h0 : 0 < m) (news : List Value) (hl : news.length = m * size) (hnews : ∀ j u, news[j]? = some u → w.cell? (a.add j) = some u) (h1 : ∀ u ∈ news, u.oneCell' = true)
    (h63 : n + m ≤ maxLen) (hbytes : (n + m) * bytes ≤ 140737488355328) (hbase : base ≤ w.heap.size) :
    ∃ v' w', (Builtin.append_ #[t, t] ty #[v, .slice (some a) m c]).run P w = .ok v' w' ∧ w'.ownsRow base e size v' (n + m) (xs ++ news) ∧
      ((v'.ownBlock = v.ownBlock ∧ v.ownBlock ≠ none ∧ w.grownBy w' v.ownBlock) ∨ (v'.ownBlock = some w.heap.size ∧ w.grownBy w' none)) := by
  have hsm : n + m ≤ 9223372036854775807 := by unfold maxLen at h63; omega
  obtain ⟨v', w', hr, h2, h3, h4, h5⟩ := run_append_own_at (P := P) w base t ty e i z size bytes ht hi hz hsize hby hzs hsz v n xs hown a m c news hl hnews h1 h63 hbytes hbase
  refine ⟨v', w', hr, h2, ?_⟩
  have hnone : ∀ o : Obj, w.grownBy (w.drew.alloc o) none := fun o => ⟨rfl, rfl, rfl, by simp, fun k hk _ => Below.heap_alloc w.drew o k hk⟩
  rcases hown.2 with ⟨rfl, rfl⟩ | ⟨g, cap, cur, rfl, hbg, hg, hnc, hcm, hcs, htake⟩
  · have hr2 := run_append_nil (P := P) w t ty e i z ht hi hz a m c news (by rw [hl, hsize]) hnews h0 (by omega) (by rw [hby]; simp at hbytes; omega)
    rw [hr2] at hr
    cases hr
    exact .inr ⟨rfl, hnone _⟩
  · by_cases hroom : n + m ≤ cap
    · have hr2 := run_append_room (P := P) w t ty e i ht hi g n cap cur hg a m c news (by rw [hl, hsize]) hnews h1 hroom (by rw [hl, hcs, hsize, ← Nat.add_mul]; exact Nat.mul_le_mul_right _ hroom)
      rw [hr2] at hr
      cases hr
      exact .inl ⟨rfl, by simp [Value.ownBlock], h3⟩
    · have hr2 := run_append_grow (P := P) w t ty e i z ht hi hz ⟨g, 0, none⟩ n cap xs (by rw [hown.1, hsize]) (hown.cells (g := g) rfl) a m c news (by rw [hl, hsize]) hnews (by omega) (by omega) (growslice_fits (by omega) (by rw [hby]; exact hbytes))
      rw [hr2] at hr
      cases hr
      exact .inr ⟨rfl, hnone _⟩

/-- The builtin append of elements onto a slice of the call's own, with where it lies. -/
theorem wpList_app2 {α : Type} {P : Program} {ops : Array Oper} {Q : Exit → Act → World → Prop} {a : Act} {w : World} {rest : List Oper} {o : Oper} {t e sz bytes : Nat} (K : SlT P t e sz bytes)
    (hgd : o.guard = none) (s x : Operand) (ho : o.op = .call { callee := .builtin .append, args := #[s, x], argTypes := #[t, t] })
    (enc : α → List Value) (hz : ∀ x, (enc x).length = sz) (h1 : Cells1 enc) (B : Nat) (v : Value) (xs : List α) (hs : a.eval s = v) (hown : Own e sz enc B w v xs)
    (b off : Nat) (m c : Nat) (ys : List α) (hx : a.eval x = .slice (some ⟨b, off, none⟩) m c) (hm : m = ys.length) (h0 : 0 < m) (hsl : Sl sz enc w (some ⟨b, off, none⟩) ys) (hmax : xs.length + ys.length ≤ 1000000000) (hby : bytes ≤ 1024) (hB : B ≤ w.heap.size)
    (h : ∀ v' w', Own e sz enc B w' v' (xs ++ ys) → ((v'.ownBlock = v.ownBlock ∧ v.ownBlock ≠ none ∧ w.grownBy w' v.ownBlock) ∨ (v'.ownBlock = some w.heap.size ∧ w.grownBy w' none)) → wpList P ops Q rest (a.put o.dst v') w') : wpList P ops Q (o :: rest) a w := by
  subst hm
  obtain ⟨ht, hsz, i, z, hi, hz0, hsize, hbytes, hzs⟩ := K
  have hb : (xs.length + ys.length) * bytes ≤ 140737488355328 := Nat.le_trans (Nat.mul_le_mul hmax hby) (by omega)
  have hm : xs.length + ys.length ≤ maxLen := by unfold maxLen; omega
  obtain ⟨v', w', hr, h2, h3⟩ := run_app2 (P := P) w B t o.type e i z sz bytes ht hi hz0 hsize hbytes hzs hsz v xs.length (xs.flatMap enc) hown ⟨b, off, none⟩ ys.length c h0 (ys.flatMap enc) (flat_length hz ys) (hsl.flat hz) (fun u hu => by obtain ⟨y, _, hy⟩ := List.mem_flatMap.1 hu; exact h1 y u hy) hm hb hB
  refine wpList_plain hgd fun K' hK => ?_
  unfold Oper.wp execOp
  simp only [ho, resolve, invoke, builtin, Sem.run_bind, Sem.run_pure, Result.andThen_ok, List.map_toArray, List.map_cons, List.map_nil, hs, hx, hr]
  refine hK _ _ (h v' w' ?_ h3)
  unfold Own; simpa using h2

end Go.Proofs.YtaicecnfodhlcaaGreat
/- over: rows of the law's own are written over. -/
set_option linter.unusedVariables false
set_option linter.unusedSimpArgs false
namespace Go.Proofs.YtaicecnfodhlcaaGreat
open Go.RowKit Go.Deep

theorem chg_setCells (b : Nat) : ∀ (vs : List Value) (o : Nat) (w : World), Chg [b] w (w.setCells b o vs)
  | [], _, w => ⟨rfl, rfl, rfl, Nat.le_refl _, fun _ _ _ => rfl⟩
  | v :: r, o, w => by
    rw [World.setCells]
    exact (Chg.set w (a := ⟨b, o, none⟩) (by simp) v).trans (chg_setCells b r (o + 1) _)
/-- Room for so many rows. -/
def Room (w : World) (g n : Nat) : Prop := ∀ j, j < n * 7 → (w.cell? ⟨g, j, none⟩).isSome = true ∧ w.frozen? ⟨g, j, none⟩ = false
theorem Own.room {w : World} {E g n cap : Nat} {xs : List Rw} (h : Own 93 7 rowL E w (.slice (some ⟨g, 0, none⟩) n cap) xs) : Room w g xs.length := by
  intro j hj
  refine ⟨?_, h.frozen j⟩
  have hi : j / 7 < xs.length := by omega
  obtain ⟨b, off, e, _, hc⟩ := (h.sl0 (fun _ => rfl)) (j / 7) hi
  injection e with e
  injection e with e1 e2
  subst e1
  subst e2
  have hl : j % 7 < (rowL xs[j / 7]).length := Nat.mod_lt _ (by omega)
  have h1 := hc (j % 7) _ (List.getElem?_eq_getElem hl)
  have e3 : 0 + j / 7 * 7 + j % 7 = j := by omega
  rw [e3] at h1
  rw [h1]
  rfl
theorem Room.mono {w : World} {g n m : Nat} (h : Room w g n) (hm : m ≤ n) : Room w g m := fun j hj => h j (by have : m * 7 ≤ n * 7 := Nat.mul_le_mul_right 7 hm; omega)
theorem Room.set {w : World} {g n : Nat} (h : Room w g n) (b o : Nat) (vs : List Value) : Room (w.setCells b o vs) g n := fun j hj => ⟨World.isSome_setCells b vs o w _ (h j hj).1, by rw [World.frozen?_setCells]; exact (h j hj).2⟩
theorem Room.keep {w w' : World} {g n : Nat} (h : Room w g n) (hb : w'.heap[g]? = w.heap[g]?) : Room w' g n := fun j hj => by
  have h1 := h j hj
  rw [World.cell?_of_block (a := ⟨g, j, none⟩) hb, World.frozen?_of_block (a := ⟨g, j, none⟩) hb]
  exact h1
theorem Room.at {w : World} {g n : Nat} (h : Room w g n) {i : Nat} (hi : i < n) : World.there w g (0 + i * 7) 7 := fun j hj => by
  have := h (0 + i * 7 + j) (by omega)
  exact this
theorem Room.atN {w : World} {g n : Nat} (h : Room w g n) {i : Nat} (hi : i < n) {k o : Nat} (hk : k = 7) (ho : o = i * 7) : World.there w g o k := by
  subst hk
  subst ho
  intro j hj
  exact h (i * 7 + j) (by omega)
/-- A row of zeroes but for its view. -/
abbrev rowN (n : Int) : Rw := ⟨⟨n, ByteArray.empty, 0⟩, ⟨0, 0, 0, 0⟩⟩
theorem ChgP.sub {p : Nat → Prop} {a b c : World} (h : ChgP p a b) {l : List Nat} (k : Chg l b c) (hl : ∀ g ∈ l, p g ∨ a.heap.size ≤ g) : ChgP p a c := h.late (ChgP.of k) hl
set_option maxRecDepth 100000 in
set_option maxHeartbeats 4000000 in
theorem over_any (v : Value) (xs : List Rw) (E : Nat) (w : World) (hown : Own 93 7 rowL E w v xs) (hl : xs.length ≤ 100000000) :
    Calls Tryz.prog 30 #[v] w fun e w' => e = .returned (.tuple #[]) ∧ ChgP (fun g => v.ownBlock = some g) w w' := by
  obtain ⟨oa, oc, rfl, _⟩ := hown.sl fun _ => rfl
  have hz : ∀ o : Obj, (w.alloc o).heap.size = w.heap.size + 1 := fun o => by simp
  have hb1 : ∀ o : Obj, Below w.heap.size w (w.alloc o) := fun o => (Below.refl _ _).alloc (Nat.le_refl _) o
  have hown1 := fun o => (hown.below (hb1 o)).mono (Nat.zero_le E)
  have hsl : Sl 7 rowL (w.alloc (.cells #[.int .i64 0, .string ByteArray.empty, .int .i64 0, .int .i64 0, .int .i64 0, .int .i64 0, .int .i64 0, .int .i64 0, .string ByteArray.empty, .int .i64 0, .int .i64 0, .int .i64 0, .int .i64 0, .int .i64 0] 93)) (some ⟨w.heap.size, 0, none⟩) [rowN 0, rowN 0] := by
    have hg : (w.alloc (.cells #[.int .i64 0, .string ByteArray.empty, .int .i64 0, .int .i64 0, .int .i64 0, .int .i64 0, .int .i64 0, .int .i64 0, .string ByteArray.empty, .int .i64 0, .int .i64 0, .int .i64 0, .int .i64 0, .int .i64 0] 93)).heap[w.heap.size]? = _ := blk_at rfl
    intro i hi
    refine ⟨w.heap.size, 0, rfl, by simp, fun j u hu => ?_⟩
    rw [cell_blk hg]
    have hj : j < 7 := by
      have := (List.getElem?_eq_some_iff.1 hu).1
      match i, hi with
      | 0, _ => exact this
      | 1, _ => exact this
    match i, hi, j, hj with
    | 0, _, 0, _ => exact hu
    | 0, _, 1, _ => exact hu
    | 0, _, 2, _ => exact hu
    | 0, _, 3, _ => exact hu
    | 0, _, 4, _ => exact hu
    | 0, _, 5, _ => exact hu
    | 0, _, 6, _ => exact hu
    | 1, _, 0, _ => exact hu
    | 1, _, 1, _ => exact hu
    | 1, _, 2, _ => exact hu
    | 1, _, 3, _ => exact hu
    | 1, _, 4, _ => exact hu
    | 1, _, 5, _ => exact hu
    | 1, _, 6, _ => exact hu
  have Hown := Lib.hid hown
  have Hown1 := Lib.hid hown1
  have Hb1 := Lib.hid hb1
  have Hz := Lib.hid hz
  have Hsl := Lib.hid hsl
  clear hown hown1 hb1 hz hsl
  go_enter Tryz.func30, Tryz.ntmps30
  go_wp2_with (at_builtin; (refine wpList_app2 st_rowG rfl _ _ rfl rowL (fun _ => rfl) cells1_row 0 _ xs rfl (Hown1.out _) w.heap.size 0 2 2 [rowN 0, rowN 0] rfl rfl (by decide) Hsl.out (by show xs.length + 2 ≤ _; omega) (by decide) (Nat.zero_le _) ?_))
  intro v' w2 hown2 hv2
  obtain ⟨oa2, oc2, rfl, _⟩ := hown2.sl fun _ => rfl
  have hlen : (xs ++ [rowN 0, rowN 0]).length = xs.length + 2 := by simp
  have hroom := hown2.pos (by rw [hlen]; omega)
  obtain ⟨g2, rfl, _, hg2lt⟩ := hroom
  have hroom := hown2.room
  rw [hlen] at hroom
  have hall : ChgP (fun g => (Value.slice oa xs.length oc).ownBlock = some g) w w2 ∧ (∀ g, oa = some ⟨g, 0, none⟩ → Room w2 g xs.length ∧ (Value.slice oa xs.length oc).ownBlock = some g) ∧ ((Value.slice oa xs.length oc).ownBlock = some g2 ∨ w.heap.size ≤ g2) := by
    rcases hv2 with ⟨e1, e2, e3⟩ | ⟨e1, e3⟩
    · refine ⟨⟨e3.os, e3.tape, e3.output, by have := e3.size; rw [Hz.out] at this; omega, fun g hg hn => ?_⟩, fun g e => ?_, Or.inl e1.symm⟩
      · rw [e3.block g (by rw [Hz.out]; omega) (fun e => hn e.symm)]
        exact (Hb1.out _).block g hg
      · subst e
        have e4 : g2 = g := by
          have h1 : some g2 = some g := e1
          injection h1
        subst e4
        exact ⟨hroom.mono (by omega), rfl⟩
    · refine ⟨⟨e3.os, e3.tape, e3.output, by have := e3.size; rw [Hz.out] at this; omega, fun g hg _ => ?_⟩, fun g e => ?_, ?_⟩
      · rw [e3.block g (by rw [Hz.out]; omega) (fun e => nomatch e)]
        exact (Hb1.out _).block g hg
      · subst e
        have hgl := (Hown.out.ge (g := g) rfl).2
        refine ⟨Hown.out.room.keep ?_, rfl⟩
        rw [e3.block g (by rw [Hz.out]; omega) (fun e => nomatch e)]
        exact (Hb1.out _).block g hgl
      · have h1 : some g2 = some _ := e1
        injection h1 with h1
        right
        first | omega | (rw [Hz.out] at h1; omega)
  obtain ⟨hch, hra, hg2⟩ := hall
  have Hch := Lib.hid hch
  have Hra := Lib.hid hra
  have Hroom := Lib.hid hroom
  have Hg2 := Lib.hid hg2
  rw [hlen]
  clear hown2 hv2 hlen hroom hch hra hg2
  go_wp2_with fail
  go_loopg [3] (xs.length + 2) (fun g i wr => ∃ j : Nat, j + g = xs.length + 2 ∧ i = .int .i64 j ∧ Room wr g2 (xs.length + 2) ∧ (∀ g, oa = some ⟨g, 0, none⟩ → Room wr g xs.length) ∧ ChgP (fun g => (Value.slice oa xs.length oc).ownBlock = some g) w wr)
  case atStart => exact ⟨0, by omega, rfl, Hroom.out, fun g e => (Hra.out g e).1, Hch.out⟩
  case round =>
    obtain ⟨j, hj, rfl, hr2, hro, hc⟩ := hrel
    have Hj := Lib.hid hj
    have Hr2 := Lib.hid hr2
    have Hro := Lib.hid hro
    have Hc := Lib.hid hc
    clear hj hr2 hro hc
    by_cases hlt : j < xs.length + 2
    · have hjl : (j : Int) < (xs.length : Int) + 2 := by omega
      go_wp2_with (refine wpList_store_mid rfl 93 _ _ rfl g2 ?oo ?cc ?hx ?hy ?ht ?hi ?h1 ?hrest; (case hx => exact rfl); (case hy => exact rfl); (case ht => exact Hr2.out.atN hlt rfl rfl); (case hi => kernel_rfl); (case h1 => kernel_rfl))
      go_roundg (gk - 1)
      case measure => have := Hj.out; omega
      case rel => exact ⟨j + 1, by have := Hj.out; omega, by go_num, Hr2.out.set _ _ _, fun g e => (Hro.out g e).set _ _ _, Hc.out.sub (chg_setCells _ _ _ _) (fun g hg => by rw [List.mem_singleton.1 hg]; exact Hg2.out)⟩
    · have hjn : j = xs.length + 2 := by have := Hj.out; omega
      subst hjn
      go_wp2_with fail
      go_loopg [4] xs.length (fun g i wr => ∃ j : Nat, j + g = xs.length ∧ i = .int .i64 j ∧ (∀ g, oa = some ⟨g, 0, none⟩ → Room wr g xs.length) ∧ ChgP (fun g => (Value.slice oa xs.length oc).ownBlock = some g) w wr)
      case atStart => exact ⟨0, by omega, rfl, Hro.out, Hc.out⟩
      case round =>
        obtain ⟨j, hj, rfl, hro, hc⟩ := hrel
        have Hj2 := Lib.hid hj
        have Hro2 := Lib.hid hro
        have Hc2 := Lib.hid hc
        clear hj hro hc
        by_cases hlt : j < xs.length
        · have hjl : (j : Int) < (xs.length : Int) := by omega
          obtain ⟨g, rfl, _, _⟩ := Hown.out.pos (by omega)
          have hrg := Lib.hid (Hro2.out g rfl)
          go_wp2_with (refine wpList_store_mid rfl 93 _ _ rfl g ?ooB ?ccB ?hxB ?hyB ?htB ?hiB ?h1B ?hrestB; (case hxB => exact rfl); (case hyB => exact rfl); (case htB => exact hrg.out.atN hlt rfl rfl); (case hiB => kernel_rfl); (case h1B => kernel_rfl))
          go_roundg (gk - 1)
          case measure => have := Hj2.out; omega
          case rel => exact ⟨j + 1, by have := Hj2.out; omega, by go_num, fun g e => (Hro2.out g e).set _ _ _, Hc2.out.sub (chg_setCells _ _ _ _) (fun g hg => by rw [List.mem_singleton.1 hg]; exact Or.inl rfl)⟩
        · have hjn : j = xs.length := by have := Hj2.out; omega
          subst hjn
          go_wp2_with fail
          go_end0
          exact ⟨rfl, Hc2.out⟩
end Go.Proofs.YtaicecnfodhlcaaGreat
/- SameResponse: where both are the same. -/
set_option linter.unusedVariables false
set_option linter.unusedSimpArgs false
namespace Go.Proofs.YtaicecnfodhlcaaGreat
open Go.RowKit Go.Deep

set_option maxRecDepth 100000 in
set_option maxHeartbeats 2000000 in
theorem equalRows_any (a : Option Addr) (ca : Nat) (xs : List Rw) (b : Option Addr) (cb : Nat) (w : World) (hx : Sl 7 rowL w a xs) (hy : Sl 7 rowL w b xs) (hm : xs.length ≤ 9223372036854775807) :
    Calls Tryz.prog 86 #[.slice a xs.length ca, .slice b xs.length cb] w fun e w' => e = .returned (.bool true) ∧ Below w.heap.size w w' := by
  go_enter Tryz.func86, Tryz.ntmps86
  go_wp2_with fail
  go_loopg [5, 13] xs.length (fun g _ i wr => ∃ j : Nat, j + g = xs.length ∧ i = .int .i64 j ∧ Below w.heap.size w wr)
  case atStart => exact ⟨0, by omega, rfl, Below.refl _ _⟩
  case round =>
    obtain ⟨j, hj, rfl, hb⟩ := hrel
    have Hj := Lib.hid hj
    clear hj
    by_cases hlt : j < xs.length
    · obtain ⟨xb, xo, rfl, hxb, x0, x1, x2, x3, x4, x5, x6⟩ := hx.at7 hlt
      obtain ⟨yb, yo, rfl, hyb, y0, y1, y2, y3, y4, y5, y6⟩ := hy.at7 hlt
      have d0 := (hb.cell (p := ⟨xb, _, none⟩) hxb).trans x0
      have d1 := (hb.cell (p := ⟨xb, _, none⟩) hxb).trans x1
      have d2 := (hb.cell (p := ⟨xb, _, none⟩) hxb).trans x2
      have d3 := (hb.cell (p := ⟨xb, _, none⟩) hxb).trans x3
      have d4 := (hb.cell (p := ⟨xb, _, none⟩) hxb).trans x4
      have d5 := (hb.cell (p := ⟨xb, _, none⟩) hxb).trans x5
      have d6 := (hb.cell (p := ⟨xb, _, none⟩) hxb).trans x6
      have f0 := (hb.cell (p := ⟨yb, _, none⟩) hyb).trans y0
      have f1 := (hb.cell (p := ⟨yb, _, none⟩) hyb).trans y1
      have f2 := (hb.cell (p := ⟨yb, _, none⟩) hyb).trans y2
      have f3 := (hb.cell (p := ⟨yb, _, none⟩) hyb).trans y3
      have f4 := (hb.cell (p := ⟨yb, _, none⟩) hyb).trans y4
      have f5 := (hb.cell (p := ⟨yb, _, none⟩) hyb).trans y5
      have f6 := (hb.cell (p := ⟨yb, _, none⟩) hyb).trans y6
      have hne := fun W => run_neq_row xs[j] xs[j] W
      have hjl : (j : Int) < (xs.length : Int) := by omega
      clear x0 y0 x1 y1 x2 y2 x3 y3 x4 y4 x5 y5 x6 y6
      simp only [decide_true, Bool.not_true] at hne
      unfold rowA at hne
      generalize xs[j].cell.v = p0 at *
      generalize xs[j].cell.k = p1 at *
      generalize xs[j].cell.s = p2 at *
      generalize xs[j].agg.c = p3 at *
      generalize xs[j].agg.s = p4 at *
      generalize xs[j].agg.mn = p5 at *
      generalize xs[j].agg.mx = p6 at *
      go_wp2_with fail
      go_quiet (fail)
      go_wp2_with fail
      go_roundg (gk - 1)
      case measure => have := Hj.out; omega
      case rel => exact ⟨j + 1, by have := Hj.out; omega, by go_num, Below.drewN hb _⟩
    · have hjl : ¬ (j : Int) < (xs.length : Int) := by omega
      go_wp2_with fail
      go_ret
      exact ⟨rfl, hb⟩
set_option maxRecDepth 100000 in
set_option maxHeartbeats 4000000 in
theorem sameRsp_any (k i er ep t l o f c n : Int) (a1 : Option Addr) (c1 : Nat) (a2 : Option Addr) (c2 : Nat) (xs : List Rw) (w : World) (hx : Sl 7 rowL w a1 xs) (hy : Sl 7 rowL w a2 xs) (hm : xs.length ≤ 9223372036854775807) :
    Calls Tryz.prog 31 #[.agg #[.int .i64 k, .int .i64 i, .int .i64 er, .int .i64 ep, .slice a1 xs.length c1, .int .i64 t, .int .i64 l, .int .i64 o, .int .i64 f, .int .i64 c, .int .i64 n], .agg #[.int .i64 k, .int .i64 i, .int .i64 er, .int .i64 ep, .slice a2 xs.length c2, .int .i64 t, .int .i64 l, .int .i64 o, .int .i64 f, .int .i64 c, .int .i64 n]] w fun e w' => e = .returned (.bool true) ∧ Below w.heap.size w w' := by
  have hb1 : Below w.heap.size w ((w.alloc (.cells #[.int .i64 k, .int .i64 i, .int .i64 er, .int .i64 ep, .slice a1 xs.length c1, .int .i64 t, .int .i64 l, .int .i64 o, .int .i64 f, .int .i64 c, .int .i64 n] 50)).alloc (.cells #[.int .i64 k, .int .i64 i, .int .i64 er, .int .i64 ep, .slice a2 xs.length c2, .int .i64 t, .int .i64 l, .int .i64 o, .int .i64 f, .int .i64 c, .int .i64 n] 50)) := ((Below.refl _ _).alloc (Nat.le_refl _) _).alloc (by simp) _
  have r1 : ((w.alloc (.cells #[.int .i64 k, .int .i64 i, .int .i64 er, .int .i64 ep, .slice a1 xs.length c1, .int .i64 t, .int .i64 l, .int .i64 o, .int .i64 f, .int .i64 c, .int .i64 n] 50)).alloc (.cells #[.int .i64 k, .int .i64 i, .int .i64 er, .int .i64 ep, .slice a2 xs.length c2, .int .i64 t, .int .i64 l, .int .i64 o, .int .i64 f, .int .i64 c, .int .i64 n] 50)).heap[w.heap.size]? = some (.cells #[.int .i64 k, .int .i64 i, .int .i64 er, .int .i64 ep, .slice a1 xs.length c1, .int .i64 t, .int .i64 l, .int .i64 o, .int .i64 f, .int .i64 c, .int .i64 n] 50 (0, 0)) := (blk_old (by simp)).trans (blk_at rfl)
  have r2 : ((w.alloc (.cells #[.int .i64 k, .int .i64 i, .int .i64 er, .int .i64 ep, .slice a1 xs.length c1, .int .i64 t, .int .i64 l, .int .i64 o, .int .i64 f, .int .i64 c, .int .i64 n] 50)).alloc (.cells #[.int .i64 k, .int .i64 i, .int .i64 er, .int .i64 ep, .slice a2 xs.length c2, .int .i64 t, .int .i64 l, .int .i64 o, .int .i64 f, .int .i64 c, .int .i64 n] 50)).heap[w.heap.size + 1]? = some (.cells #[.int .i64 k, .int .i64 i, .int .i64 er, .int .i64 ep, .slice a2 xs.length c2, .int .i64 t, .int .i64 l, .int .i64 o, .int .i64 f, .int .i64 c, .int .i64 n] 50 (0, 0)) := blk_at (by simp)
  have heq := equalRows_any a1 c1 xs a2 c2 _ (hx.below hb1) (hy.below hb1) hm
  have hst := fun W => run_eql_stats t l o f c n t l o f c n W
  simp only [decide_true] at hst
  have Hb1 := Lib.hid hb1
  have R1 := Lib.hid r1
  have R2 := Lib.hid r2
  clear hb1 r1 r2 hx hy hm
  go_enter Tryz.func31, Tryz.ntmps31
  go_wp2_with fail
  refine heq.mono ?_
  rintro e w1 ⟨rfl, hb⟩
  have r1 := (hb.block _ (lt_of_block R1.out)).trans R1.out
  have r2 := (hb.block _ (lt_of_block R2.out)).trans R2.out
  have p5 := cell_blk r1 5
  have q5 := cell_blk r2 5
  have p6 := cell_blk r1 6
  have q6 := cell_blk r2 6
  have p7 := cell_blk r1 7
  have q7 := cell_blk r2 7
  have p8 := cell_blk r1 8
  have q8 := cell_blk r2 8
  have p9 := cell_blk r1 9
  have q9 := cell_blk r2 9
  have p10 := cell_blk r1 10
  have q10 := cell_blk r2 10
  simp at p5 q5 p6 q6 p7 q7 p8 q8 p9 q9 p10 q10
  have Hb := Lib.hid (Hb1.out.trans (hb.mono Hb1.out.size))
  clear hb heq r1 r2
  go_wp2_with fail
  go_ret
  exact ⟨rfl, Hb.out⟩
end Go.Proofs.YtaicecnfodhlcaaGreat
/- Two models that are the law's own; rows and blocks that the law holds beside them. -/
set_option linter.unusedVariables false
set_option linter.unusedSimpArgs false
namespace Go.Proofs.YtaicecnfodhlcaaGreat
open Go.RowKit Go.Deep

theorem Mine.act2 {w0 w : World} {mp : Nat} {B : MB} {T : Mst} {n : Nat} (h : Mine w0 w mp B T n) (hn : n ≤ 99999) (x : Opx) (hx : OpOk w x) (hs : x.q.cells.length ≤ 100) :
    Calls Tryz.prog 14 #[.pointer (some ⟨mp, 0, none⟩), opV x] w fun e w' => e = .returned (.tuple #[]) ∧ ∃ B', Mine w0 w' mp B' (T.act x) (n + 1) ∧ Turn w w' B B' := by
  have hc := act_any h.md h.few (by omega) x hx hs
  rw [h.mp] at hc
  refine hc.mono ?_
  rintro e w' ⟨rfl, B', hM, hT⟩
  exact ⟨rfl, B', h.turn hM hT (h.few.act h.md.inv x), hT⟩
theorem Mine.at {w0 w : World} {mp : Nat} {B : MB} {T : Mst} {n : Nat} (h : Mine w0 w mp B T n) (hn : n ≤ 100000) (x : Int) :
    Calls Tryz.prog 23 #[.pointer (some ⟨mp, 0, none⟩), .int .i64 x] w fun e w' => ∃ v, e = .returned (.tuple #[v, .bool (T.seals x).isSome]) ∧ Own 93 7 rowL w.heap.size w' v ((T.seals x).getD []) ∧ Below w.heap.size w w' := by
  have hc := mAt_any h.md x (h.maxE hn x)
  rw [h.mp] at hc
  exact hc
theorem Mine.leave {w0 w : World} {mp : Nat} {B : MB} {T : Mst} {n : Nat} (h : Mine w0 w mp B T n) (hn : n ≤ 99999) (s : Int) :
    Calls Tryz.prog 24 #[.pointer (some ⟨mp, 0, none⟩), .int .i64 s] w fun e w' => e = .returned (.int .i64 (T.heldN s)) ∧ Mine w0 w' mp B (T.leave s) n ∧ Turn w w' B B := by
  have hc := leave_full h.md s (by have := h.few.now; omega)
  rw [h.mp] at hc
  refine hc.mono ?_
  rintro e w' ⟨rfl, hM, hT⟩
  exact ⟨rfl, h.turn hM hT (h.few.leave s), hT⟩
/-- A scan at an epoch changes nothing. -/
theorem Mst.scan_same (S : Mst) (s : Int) (q : Rq) (r : Int) (hk : q.k = 3) (hep : q.ep ≠ 0) : (S.ask s q r).1 = S := by
  unfold Mst.ask
  split; · rfl
  split; · rfl
  split; · rfl
  split; · rfl
  rw [answered_fst]
  unfold Mst.inner
  rw [if_neg (by omega), if_neg (by omega), if_neg (by omega), if_neg (by omega)]
  unfold Mst.read
  split
  · rfl
  · rw [if_pos hk, if_neg hep]
theorem Mst.scan_rows (S : Mst) (s : Int) (q : Rq) (r : Int) (hk : q.k = 3) : (S.ask s q r).2.2.rows.length ≤ q.lim.toNat := by
  unfold Mst.ask
  split; · exact Nat.zero_le _
  split; · exact Nat.zero_le _
  split; · exact Nat.zero_le _
  split; · exact Nat.zero_le _
  unfold answered
  split
  · unfold Mst.inner
    rw [if_neg (by omega), if_neg (by omega), if_neg (by omega), if_neg (by omega)]
    unfold Mst.read
    split
    · exact Nat.zero_le _
    · rw [if_pos hk]
      split
      · split
        · exact Nat.zero_le _
        · exact List.length_take_le _ _
      · exact List.length_take_le _ _
  · exact Nat.zero_le _
theorem Mine.scan {w0 w : World} {mp : Nat} {B : MB} {T : Mst} {n : Nat} (h : Mine w0 w mp B T n) (hn : n ≤ 99999) (s : Int) (q : Rq) (qa : Option Addr) (qc : Nat) (r : Int) (hq : Sl 3 cellL w qa q.cells) (hl : q.cells.length ≤ 100000000) (hk : q.k = 3) (hep : q.ep ≠ 0) :
    Calls Tryz.prog 18 #[.pointer (some ⟨mp, 0, none⟩), .int .i64 s, .agg (q.at qa qc), .int .i64 r] w fun e w' => ∃ v B', e = .returned (.tuple #[.agg ((T.ask s q r).2.2.at v), .int .i64 (T.ask s q r).2.1]) ∧ Own 93 7 rowL w.heap.size w' v (T.ask s q r).2.2.rows ∧ Mine w0 w' mp B' T n ∧ Turn w w' B B' ∧ ∀ g, v.ownBlock = some g → B'.lab g = .no := by
  have hc := ask_any h.md s q qa qc r hq hl (h.max (by omega)) (h.maxE (by omega) _)
  rw [h.mp] at hc
  refine hc.mono ?_
  rintro e w' ⟨v, B', rfl, ho, hM, hT, hv⟩
  rw [T.scan_same s q r hk hep] at hM
  exact ⟨v, B', rfl, ho, h.turn hM hT h.few, hT, hv⟩

/-- Two models apart. -/
structure Two (W1 w : World) (mp : Nat) (B : MB) (T : Mst) (n : Nat) (mp2 : Nat) (B2 : MB) (T2 : Mst) : Prop where
  m : Mine W1 w mp B T n
  o : Mine W1 w mp2 B2 T2 0
  dis : ∀ g, B2.lab g ≠ .no → B.lab g = .no
theorem Two.turn {W1 w w' : World} {mp : Nat} {B B' : MB} {T T' : Mst} {n n' : Nat} {mp2 : Nat} {B2 : MB} {T2 : Mst} (h : Two W1 w mp B T n mp2 B2 T2) (hM : Mine W1 w' mp B' T' n') (hT : Turn w w' B B') : Two W1 w' mp B' T' n' mp2 B2 T2 :=
  ⟨hM, ⟨h.o.md.keep hT.chg.size fun g hg => (hT.away (h.dis g hg) (h.o.md.lt g hg)).2, h.o.mp, h.o.few, h.o.low, hM.below⟩, fun g hg => (hT.away (h.dis g hg) (h.o.md.lt g hg)).1⟩
theorem Two.keep {W1 w w' : World} {mp : Nat} {B : MB} {T : Mst} {n : Nat} {mp2 : Nat} {B2 : MB} {T2 : Mst} (h : Two W1 w mp B T n mp2 B2 T2) (hb : Below w.heap.size w w') : Two W1 w' mp B T n mp2 B2 T2 :=
  ⟨h.m.keep hb, h.o.keep hb, h.dis⟩
theorem Mine.chgP {w0 w w' : World} {mp : Nat} {B : MB} {T : Mst} {n : Nat} (h : Mine w0 w mp B T n) {p : Nat → Prop} (hc : ChgP p w w') (hl : ∀ g, p g → B.lab g = .no ∧ w0.heap.size ≤ g) : Mine w0 w' mp B T n :=
  ⟨h.md.keep hc.size fun g hg => hc.block g (h.md.lt g hg) (fun hm => hg (hl g hm).1), h.mp, h.few, h.low, h.below.trans ⟨hc.os, hc.tape, hc.output, hc.size, fun g hg => hc.block g (Nat.lt_of_lt_of_le hg h.below.size) (fun hm => by have := (hl g hm).2; omega)⟩⟩
/-- Rows that the law holds. -/
structure Kept (w : World) (B B2 : MB) (lo : Nat) (v : Value) (xs : List Rw) : Prop where
  own : Own 93 7 rowL lo w v xs
  no : ∀ g, v.ownBlock = some g → B.lab g = .no ∧ B2.lab g = .no
theorem Kept.turn {w w' : World} {B B' B2 : MB} {lo : Nat} {v : Value} {xs : List Rw} (h : Kept w B B2 lo v xs) (hT : Turn w w' B B') : Kept w' B' B2 lo v xs :=
  ⟨h.own.turn hT fun g hg => (h.no g hg).1, fun g hg => ⟨(hT.away (h.no g hg).1 (h.own.ge hg).2).1, (h.no g hg).2⟩⟩
theorem Kept.below {w w' : World} {B B2 : MB} {lo : Nat} {v : Value} {xs : List Rw} (h : Kept w B B2 lo v xs) (hb : Below w.heap.size w w') : Kept w' B B2 lo v xs := ⟨h.own.below hb, h.no⟩
theorem Kept.chg {w w' : World} {B B2 : MB} {lo : Nat} {v : Value} {xs : List Rw} (h : Kept w B B2 lo v xs) {p : Nat → Prop} (hc : ChgP p w w') (hp : ∀ g, v.ownBlock = some g → ¬ p g) : Kept w' B B2 lo v xs :=
  ⟨h.own.keep fun g hg hlt => hc.block g hlt (hp g hg), h.no⟩
/-- A block that the law holds. -/
structure Blk (w : World) (B : MB) (g : Nat) (o : Obj) : Prop where
  at_ : w.heap[g]? = some o
  no : B.lab g = .no
theorem Blk.turn {w w' : World} {B B' : MB} {g : Nat} {o : Obj} (h : Blk w B g o) (hT : Turn w w' B B') : Blk w' B' g o :=
  ⟨(hT.away h.no (lt_of_block h.at_)).2.trans h.at_, (hT.away h.no (lt_of_block h.at_)).1⟩
theorem Blk.below {w w' : World} {B : MB} {g : Nat} {o : Obj} (h : Blk w B g o) (hb : Below w.heap.size w w') : Blk w' B g o := ⟨(hb.block _ (lt_of_block h.at_)).trans h.at_, h.no⟩
theorem Blk.chg {w w' : World} {B : MB} {g : Nat} {o : Obj} (h : Blk w B g o) {p : Nat → Prop} (hc : ChgP p w w') (hp : ¬ p g) : Blk w' B g o := ⟨(hc.block _ (lt_of_block h.at_) hp).trans h.at_, h.no⟩

section
variable {W1 w : World} {mp : Nat} {B : MB} {T : Mst} {n : Nat} {mp2 : Nat} {B2 : MB} {T2 : Mst}
theorem Two.map (h : Two W1 w mp B T n mp2 B2 T2) (hn : n ≤ 100000) :
    Calls Tryz.prog 15 #[.pointer (some ⟨mp, 0, none⟩)] w fun e w' => ∃ a c, e = .returned (.slice a T.L.length c) ∧ Two W1 w' mp B T n mp2 B2 T2 ∧ Kept w' B B2 w.heap.size (.slice a T.L.length c) T.L ∧ Below w.heap.size w w' := by
  refine (h.m.map hn).mono ?_
  rintro e w' ⟨v, rfl, ho, hb⟩
  obtain ⟨a, c, rfl, _⟩ := ho.sl fun _ => rfl
  exact ⟨a, c, rfl, h.keep hb, ⟨ho, fun g hg => ⟨h.m.away (ho.ge hg).1, h.o.away (ho.ge hg).1⟩⟩, hb⟩
theorem Two.at (h : Two W1 w mp B T n mp2 B2 T2) (hn : n ≤ 100000) (x : Int) :
    Calls Tryz.prog 23 #[.pointer (some ⟨mp, 0, none⟩), .int .i64 x] w fun e w' => ∃ a c, e = .returned (.tuple #[.slice a ((T.seals x).getD []).length c, .bool (T.seals x).isSome]) ∧ Two W1 w' mp B T n mp2 B2 T2 ∧ Kept w' B B2 w.heap.size (.slice a ((T.seals x).getD []).length c) ((T.seals x).getD []) ∧ Below w.heap.size w w' := by
  refine (h.m.at hn x).mono ?_
  rintro e w' ⟨v, rfl, ho, hb⟩
  obtain ⟨a, c, rfl, _⟩ := ho.sl fun _ => rfl
  exact ⟨a, c, rfl, h.keep hb, ⟨ho, fun g hg => ⟨h.m.away (ho.ge hg).1, h.o.away (ho.ge hg).1⟩⟩, hb⟩
theorem Two.scan (h : Two W1 w mp B T n mp2 B2 T2) (hn : n ≤ 99999) (s : Int) (q : Rq) (qa : Option Addr) (qc : Nat) (r : Int) (hq : Sl 3 cellL w qa q.cells) (hl : q.cells.length ≤ 100000000) (hk : q.k = 3) (hep : q.ep ≠ 0) :
    Calls Tryz.prog 18 #[.pointer (some ⟨mp, 0, none⟩), .int .i64 s, .agg (q.at qa qc), .int .i64 r] w fun e w' => ∃ a c B', e = .returned (.tuple #[.agg ((T.ask s q r).2.2.at (.slice a (T.ask s q r).2.2.rows.length c)), .int .i64 (T.ask s q r).2.1]) ∧ Two W1 w' mp B' T n mp2 B2 T2 ∧ Kept w' B' B2 w.heap.size (.slice a (T.ask s q r).2.2.rows.length c) (T.ask s q r).2.2.rows ∧ Turn w w' B B' := by
  refine (h.m.scan hn s q qa qc r hq hl hk hep).mono ?_
  rintro e w' ⟨v, B', rfl, ho, hM, hT, hv⟩
  obtain ⟨a, c, rfl, _⟩ := ho.sl fun _ => rfl
  exact ⟨a, c, B', rfl, h.turn hM hT, ⟨ho, fun g hg => ⟨hv g hg, h.o.away (ho.ge hg).1⟩⟩, hT⟩
theorem Two.over (h : Two W1 w mp B T n mp2 B2 T2) {v : Value} {xs : List Rw} {lo : Nat} (k : Kept w B B2 lo v xs) (hlo : W1.heap.size ≤ lo) (hl : xs.length ≤ 100000000) :
    Calls Tryz.prog 30 #[v] w fun e w' => e = .returned (.tuple #[]) ∧ Two W1 w' mp B T n mp2 B2 T2 ∧ ChgP (fun g => v.ownBlock = some g) w w' := by
  refine (over_any v xs lo w k.own hl).mono ?_
  rintro e w' ⟨rfl, hc⟩
  exact ⟨rfl, ⟨h.m.chgP hc fun g hg => ⟨(k.no g hg).1, Nat.le_trans hlo (k.own.ge hg).1⟩, h.o.chgP hc fun g hg => ⟨(k.no g hg).2, Nat.le_trans hlo (k.own.ge hg).1⟩, h.dis⟩, hc⟩
end
/-- The same scan, again and again: the same answer. -/
theorem scan_all (W1 : World) (mp : Nat) (T : Mst) (n mp2 : Nat) (B2 : MB) (T2 : Mst) (hn : n ≤ 99999) (s : Int) (q : Rq) (hc : q.cells = []) (hk : q.k = 3) (hep : q.ep ≠ 0) :
    ∃ (k i er ep t l o f c n' e1 : Int) (rows : List Rw), rows.length ≤ q.lim.toNat ∧ ∀ (W' : World) (B' : MB), Two W1 W' mp B' T n mp2 B2 T2 →
      Calls Tryz.prog 18 #[.pointer (some ⟨mp, 0, none⟩), .int .i64 s, .agg (q.at none 0), .int .i64 0] W' fun e w' => ∃ a ca B'', e = .returned (.tuple #[.agg (respL k i er ep (.slice a rows.length ca) t l o f c n'), .int .i64 e1]) ∧ Two W1 w' mp B'' T n mp2 B2 T2 ∧ Kept w' B'' B2 W'.heap.size (.slice a rows.length ca) rows ∧ Turn W' w' B' B'' := by
  refine ⟨(T.ask s q 0).2.2.k, (T.ask s q 0).2.2.i, (T.ask s q 0).2.2.er, (T.ask s q 0).2.2.ep, (T.ask s q 0).2.2.t, (T.ask s q 0).2.2.l, (T.ask s q 0).2.2.o, (T.ask s q 0).2.2.f, (T.ask s q 0).2.2.c, (T.ask s q 0).2.2.n, (T.ask s q 0).2.1, (T.ask s q 0).2.2.rows, T.scan_rows s q 0 hk, fun W' B' h => ?_⟩
  exact h.scan hn s q none 0 0 (by rw [hc]; exact Sl.nil _ _ _ _) (by rw [hc]; exact Nat.zero_le _) hk hep
end Go.Proofs.YtaicecnfodhlcaaGreat
/- The walk of the law ModelOwn. -/
set_option linter.unusedVariables false
set_option linter.unusedSimpArgs false
namespace Go.Proofs.YtaicecnfodhlcaaGreat
open Go.RowKit Go.Deep

theorem wpList_build2 {P : Program} {ops : Array Oper} {Q : Exit → Act → World → Prop} {a : Act} {w : World} {rest : List Oper} {op : Oper} (hgd : op.guard = none) (t : TypeId) (parts : Array (Nat × Operand)) (ho : op.op = .build t parts) (cells : Array Value)
    (hc : P.built t (parts.map fun (i, x) => (i, a.eval x)).toList = some cells) (h : wpList P ops Q rest (a.put op.dst (.agg cells)) w) : wpList P ops Q (op :: rest) a w :=
  wpList_plain hgd fun _ hK => by
    unfold Oper.wp execOp
    simp only [ho, Sem.run_bind, run_build w t _ cells hc, Result.andThen_ok]
    exact hK _ _ h
theorem there_resp (w : World) : World.there (w.alloc respO) w.heap.size 0 11 := fun j hj => by
  have h : (w.alloc respO).heap[w.heap.size]? = some respO := blk_at rfl
  rw [Nat.zero_add]
  refine ⟨?_, frozen_blk h _⟩
  rw [cell_blk h, Array.getElem?_eq_getElem (by simpa using hj)]
  rfl
theorem resp_set (w : World) (v0 v1 v2 v3 v4 v5 v6 v7 v8 v9 v10 : Value) :
    Below w.heap.size w ((w.alloc respO).setCells w.heap.size 0 [v0, v1, v2, v3, v4, v5, v6, v7, v8, v9, v10]) ∧ ((w.alloc respO).setCells w.heap.size 0 [v0, v1, v2, v3, v4, v5, v6, v7, v8, v9, v10]).heap[w.heap.size]? = some (.cells #[v0, v1, v2, v3, v4, v5, v6, v7, v8, v9, v10] 50 (0, 0)) := by
  have h : (w.alloc respO).heap[w.heap.size]? = some respO := blk_at rfl
  exact ⟨Below.chain ((Below.refl _ _).alloc (Nat.le_refl _) _) (chg_setCells _ _ _ _) (by simp) (fun x hx => by rw [List.mem_singleton.1 hx]; exact Nat.le_refl _), set11 h v0 v1 v2 v3 v4 v5 v6 v7 v8 v9 v10⟩
theorem Mine.base {w0 w1 w : World} {mp : Nat} {B : MB} {T : Mst} {n : Nat} (h : Mine w1 w mp B T n) (hb : Below w0.heap.size w0 w1) : Mine w0 w mp B T n :=
  ⟨h.md, h.mp, h.few, fun g hg => Nat.le_trans hb.size (h.low g hg), hb.trans (h.below.mono hb.size)⟩
set_option maxRecDepth 100000 in
set_option maxHeartbeats 40000000 in
theorem own_any (c : Cfg) (A : Option Addr) (cap : Nat) (A1 : Option Addr) (cap1 : Nat) (l : List Opx) (W : World)
    (hsv : Sl 3 viewL W A c.vs) (hcl : c.vs.length ≤ 9223372036854775807) (hsl : Sl 25 opL W A1 l) (hok : ∀ o ∈ l, OpOk W o) (hll : l.length ≤ 9223372036854775807) :
    Calls Tryz.prog 6 #[cfgV c A cap, .slice A1 l.length cap1] W fun e W' => e = .returned (.bool true) ∧ Below W.heap.size W W' := by
  go_enter Tryz.func6, Tryz.ntmps6
  go_wp2_with fail
  generalize hW1 : World.alloc W (cfgO c A cap) = W1
  have hb1 : Below W.heap.size W W1 := by rw [← hW1]; exact (Below.refl _ _).alloc (Nat.le_refl _) _
  have r0 : W1.heap[W.heap.size]? = some (cfgO c A cap) := by rw [← hW1]; exact blk_at rfl
  clear hW1
  have hrr := refRight_any c A cap W1 (hsv.below hb1) hcl
  have hhead := fun W' => head_any W'
  have Hb1 := Lib.hid hb1
  have R0 := Lib.hid r0
  clear hb1 r0
  cases hR : c.right
  · rw [hR] at hrr
    refine hrr.mono ?_
    rintro e w2 ⟨rfl, hb2⟩
    clear hrr hR
    go_wp2_with fail
    refine (hhead _).mono ?_
    rintro e w3 ⟨rfl, hb3⟩
    go_wp2_with fail
    go_ret
    exact ⟨rfl, Hb1.out.trans ((hb2.trans (hb3.mono hb2.size)).mono Hb1.out.size)⟩
  · rw [hR] at hrr
    have HR := Lib.hid hR
    clear hR
    refine hrr.mono ?_
    rintro e w2 ⟨rfl, hb2⟩
    have r0' := (hb2.block _ (lt_of_block R0.out)).trans R0.out
    have u0 := cell_blk r0' 0
    have u1 := cell_blk r0' 1
    have u2 := cell_blk r0' 2
    have u3 := cell_blk r0' 3
    have u4 := cell_blk r0' 4
    have u5 := cell_blk r0' 5
    have u6 := cell_blk r0' 6
    have u7 := cell_blk r0' 7
    have u8 := cell_blk r0' 8
    have u9 := cell_blk r0' 9
    have u10 := cell_blk r0' 10
    have u11 := cell_blk r0' 11
    simp at u0 u1 u2 u3 u4 u5 u6 u7 u8 u9 u10 u11
    have hnew := Mine.new (w0 := W1) hb2 (hsv.below (Hb1.out.trans (hb2.mono Hb1.out.size))) HR.out (cap := cap)
    have Hb2 := Lib.hid hb2
    clear r0' hrr hb2
    go_wp2_with fail
    refine hnew.mono ?_
    rintro e w3 ⟨B0, rfl, hM3, hb3⟩
    have hb13 := Hb2.out.trans (hb3.mono Hb2.out.size)
    have r0' := (hb13.block _ (lt_of_block R0.out)).trans R0.out
    have v0 := cell_blk r0' 0
    have v1 := cell_blk r0' 1
    have v2 := cell_blk r0' 2
    have v3 := cell_blk r0' 3
    have v4 := cell_blk r0' 4
    have v5 := cell_blk r0' 5
    have v6 := cell_blk r0' 6
    have v7 := cell_blk r0' 7
    have v8 := cell_blk r0' 8
    have v9 := cell_blk r0' 9
    have v10 := cell_blk r0' 10
    have v11 := cell_blk r0' 11
    simp at v0 v1 v2 v3 v4 v5 v6 v7 v8 v9 v10 v11
    have hnew2 := Mine.new (w0 := w3) (Below.refl _ _) (hsv.below (Hb1.out.trans (hb13.mono Hb1.out.size))) HR.out (cap := cap)
    have Hb13 := Lib.hid hb13
    have HM3 := Lib.hid hM3
    generalize B0.mp = mp at *
    clear hnew r0' hM3 hb3 hb13 u0 u1 u2 u3 u4 u5 u6 u7 u8 u9 u10 u11
    go_wp2_with fail
    refine hnew2.mono ?_
    rintro e w4 ⟨B2, rfl, hM4, hb4⟩
    have htwo : Two W1 w4 mp B0 (Mst.new c) 0 B2.mp B2 (Mst.new c) := ⟨HM3.out.keep hb4, hM4.base Hb13.out, fun g hg => HM3.out.away (hM4.low g hg)⟩
    have HTw := Lib.hid htwo
    generalize B2.mp = mp2 at *
    clear hnew2 htwo hM4 hb4 v0 v1 v2 v3 v4 v5 v6 v7 v8 v9 v10 v11
    go_upto_block 0 with fail
    go_cut [9] from 52 to 154 (fun sI wx => ∃ (n : Nat) (T : Mst) (B : MB), Two W1 wx mp B T n mp2 B2 (Mst.new c))
    case first =>
      go_wp2_with fail
      go_loopg [9] l.length (fun g i wr => ∃ (j n : Nat) (T : Mst) (B : MB), j + g = l.length ∧ i = .int .i64 j ∧ j ≤ 40 ∧ n ≤ 2 * j ∧ Two W1 wr mp B T n mp2 B2 (Mst.new c))
      case atStart => exact ⟨0, 0, _, _, by omega, rfl, by omega, by omega, HTw.out⟩
      case round =>
        obtain ⟨j, n, T, B, hj, rfl, hj40, hn, hM⟩ := hrel
        have Hj := Lib.hid hj
        have HM := Lib.hid hM
        have hbw : Below W.heap.size W wr := Hb1.out.trans (hM.m.below.mono Hb1.out.size)
        by_cases hlt : j < l.length ∧ j < 40
        · obtain ⟨hlt, hl40⟩ := hlt
          obtain ⟨xb, xo, hAe, hxb, hXc⟩ := hsl.at_op hlt
          have hox := hok _ (List.getElem_mem hlt)
          generalize l[j] = x at *
          have hra : ∀ W', Below W.heap.size W W' → ∀ jj v, (opL x)[jj]? = some v → W'.cell? ⟨xb, xo + j * 25 + jj, none⟩ = some v := fun W' hW jj v hv => (hW.cell (p := ⟨xb, xo + j * 25 + jj, none⟩) hxb).trans (hXc jj v hv)
          have hsm := small2_any x wr
          have Hra := Lib.hid hra
          have Hox := Lib.hid hox
          have Hbw := Lib.hid hbw
          have hjl : (j : Int) < (l.length : Int) := by omega
          have hjl40 : (j : Int) < 40 := by omega
          clear hra hox hbw hM hj hXc hxb
          subst hAe
          go_upto_if 66 with (first | (go_at_call 13; refine hsm.mono ?_; rintro e w5 ⟨rfl, hb5⟩; have HM5 := Lib.hid (HM.out.keep hb5); clear hsm hb5) | (refine wpList_load_mid (ty := 41) rfl _ rfl xb _ rfl (opL x) _ (Hra.out _ Hbw.out) Tryz.underlying41 rfl (by kernel_rfl) ?_))
          have hbw5 : Below W.heap.size W w5 := Hb1.out.trans (HM5.out.m.below.mono Hb1.out.size)
          have Hbw5 := Lib.hid hbw5
          clear hbw5
          go_cut [] from 52 to 154 (fun wx => ∃ (n' : Nat) (T' : Mst) (B' : MB), n' ≤ n + 1 ∧ Two W1 wx mp B' T' n' mp2 B2 (Mst.new c))
          case first =>
            cases hs : decide (x.q.cells.length ≤ 100)
            · go_wp2_with fail
              go_meet
              exact ⟨n, T, B, by omega, HM5.out⟩
            · have hact := HM5.out.m.act2 (by omega) x (Hox.out.below Hbw5.out) (of_decide_eq_true hs)
              go_wp2_with (refine wpList_load_mid (ty := 41) rfl _ rfl xb _ rfl (opL x) _ (Hra.out _ Hbw5.out) Tryz.underlying41 rfl (by kernel_rfl) ?_)
              refine hact.mono ?_
              rintro e w6 ⟨rfl, B', hM6, hT6⟩
              have HM6 := Lib.hid (HM5.out.turn hM6 hT6)
              clear hM6 hT6 hact
              go_wp2_with fail
              go_meet
              exact ⟨n + 1, _, B', by omega, HM6.out⟩
          case rest =>
            obtain ⟨n1, T1, B1, hn1, hM1⟩ := hcut
            have HM1 := Lib.hid hM1
            clear hM1 HM HM5 Hbw5 Hbw Hra Hox
            go_upto_if 75 with fail
            go_cut [] from 52 to 154 (fun wx => ∃ (n' : Nat) (T' : Mst) (B' : MB), n' ≤ n + 2 ∧ Two W1 wx mp B' T' n' mp2 B2 (Mst.new c))
            case first =>
              have hpin := HM1.out.m.ask (by omega) 5 ⟨4, 0, 0, [], ⟨0, ⟨#[]⟩, 0⟩, ⟨0, ⟨#[]⟩, 0⟩, 0⟩ none 0 0 (Sl.nil _ _ _ _) (by simp)
              dsimp only [Rq.at] at hpin
              go_wp2_with fail
              all_goals first
                | (refine hpin.mono ?_
                   rintro e w6 ⟨v6, B', rfl, _, hM6, hT6, _⟩
                   have HM6 := Lib.hid (HM1.out.turn hM6 hT6)
                   clear hM6 hT6 hpin
                   go_wp2_with fail
                   go_meet
                   exact ⟨n1 + 1, _, B', by omega, HM6.out⟩)
                | (go_meet; exact ⟨n1, T1, B1, by omega, HM1.out⟩)
            case rest =>
              obtain ⟨n2, T2, B3, hn2, hM2⟩ := hcut
              have HM2 := Lib.hid hM2
              clear hM2 HM1
              have HT := Lib.hid HM2.out
              clear HM2
              have hn82 : n2 ≤ 82 := by omega
              have HW0 := Lib.hid HT.out.m.below.size
              have hscan := scan_all W1 mp T2 n2 mp2 B2 (Mst.new c) (by omega) 5 ⟨3, 0, 1, [], ⟨0, ⟨#[]⟩, 0⟩, ⟨4, ⟨#[]⟩, 0⟩, 99⟩ rfl rfl (by decide)
              dsimp only [Rq.at, List.length] at hscan
              obtain ⟨k1, i1, er1, ep1, t1, l1, o1, f1, c1, n1', e1, rows, hrl, hscan⟩ := hscan
              have Hscan := Lib.hid hscan
              have Hrl : Hid (rows.length ≤ 99) := Lib.hid hrl
              clear hscan hrl
              have HL := Lib.hid (HT.out.m.max (by omega))
              have hmap := HT.out.map (by omega)
              go_wp2_with fail
              refine hmap.mono ?_
              rintro e wa ⟨sla, cpa, rfl, hM, hk, hb⟩
              replace HT := Lib.hid hM
              have Ka := Lib.hid hk
              have Ia : Hid (∀ g, (Value.slice sla T2.L.length cpa).ownBlock = some g → wc.heap.size ≤ g ∧ g < wa.heap.size) := Lib.hid (fun g hg => hk.own.ge hg)
              have Zwa := Lib.hid hb.size
              clear hmap hM hk hb
              have hmap := HT.out.map (by omega)
              go_wp2_with fail
              refine hmap.mono ?_
              rintro e wb ⟨slb, cpb, rfl, hM, hk, hb⟩
              replace HT := Lib.hid hM
              replace Ka := Lib.hid (Ka.out.below hb)
              have Kb := Lib.hid hk
              have Ib : Hid (∀ g, (Value.slice slb T2.L.length cpb).ownBlock = some g → wa.heap.size ≤ g ∧ g < wb.heap.size) := Lib.hid (fun g hg => hk.own.ge hg)
              have Zwb := Lib.hid hb.size
              clear hmap hM hk hb
              have hsc := Hscan.out _ _ HT.out
              go_wp2_with (first | (refine wpList_build2 (t := 30) rfl _ rfl #[.int .i64 3, .int .i64 0, .int .i64 1, .slice none 0 0, .int .i64 0, .string ⟨#[]⟩, .int .i64 0, .int .i64 4, .string ⟨#[]⟩, .int .i64 0, .int .i64 99] (by kernel_rfl) ?_) | (refine wpList_build2 (t := 28) rfl _ rfl #[.int .i64 4, .string ⟨#[]⟩, .int .i64 0] (by kernel_rfl) ?_))
              refine hsc.mono ?_
              rintro e wr1 ⟨slr, cpr, Br, rfl, hM, hk, hT⟩
              replace HT := Lib.hid hM
              replace Ka := Lib.hid (Ka.out.turn hT)
              replace Kb := Lib.hid (Kb.out.turn hT)
              have Kr := Lib.hid hk
              have Ir : Hid (∀ g, (Value.slice slr rows.length cpr).ownBlock = some g → wb.heap.size ≤ g ∧ g < wr1.heap.size) := Lib.hid (fun g hg => hk.own.ge hg)
              have Zwr1 := Lib.hid hT.chg.size
              clear hsc hM hk hT
              go_upto_region 17 with (refine wpList_store_mid rfl 50 _ _ rfl wr1.heap.size 0 (respL k1 i1 er1 ep1 (.slice slr rows.length cpr) t1 l1 o1 f1 c1 n1') ?hxr ?hyr ?htr ?hir ?h1r ?hrr; (case hxr => exact rfl); (case hyr => exact rfl); (case htr => exact there_resp wr1); (case hir => kernel_rfl); (case h1r => kernel_rfl))
              have hw2 := resp_set wr1 (.int .i64 k1) (.int .i64 i1) (.int .i64 er1) (.int .i64 ep1) (.slice slr rows.length cpr) (.int .i64 t1) (.int .i64 l1) (.int .i64 o1) (.int .i64 f1) (.int .i64 c1) (.int .i64 n1')
              generalize hw : World.setCells (World.alloc wr1 respO) wr1.heap.size 0 _ = wr at *
              obtain ⟨hb, hg⟩ := hw2
              have Dr := Lib.hid (Blk.mk hg (HT.out.m.away (Nat.le_refl _)))
              have Gr := Lib.hid (lt_of_block hg)
              have Zwr := Lib.hid hb.size
              replace HT := Lib.hid (HT.out.keep hb)
              replace Ka := Lib.hid (Ka.out.below hb)
              replace Kb := Lib.hid (Kb.out.below hb)
              replace Kr := Lib.hid (Kr.out.below hb)
              clear hw hb hg
              have hsc := Hscan.out _ _ HT.out
              go_wp2_with (first | (refine wpList_build2 (t := 30) rfl _ rfl #[.int .i64 3, .int .i64 0, .int .i64 1, .slice none 0 0, .int .i64 0, .string ⟨#[]⟩, .int .i64 0, .int .i64 4, .string ⟨#[]⟩, .int .i64 0, .int .i64 99] (by kernel_rfl) ?_) | (refine wpList_build2 (t := 28) rfl _ rfl #[.int .i64 4, .string ⟨#[]⟩, .int .i64 0] (by kernel_rfl) ?_))
              refine hsc.mono ?_
              rintro e ws1 ⟨sls, cps, Bs, rfl, hM, hk, hT⟩
              replace HT := Lib.hid hM
              replace Ka := Lib.hid (Ka.out.turn hT)
              replace Kb := Lib.hid (Kb.out.turn hT)
              replace Kr := Lib.hid (Kr.out.turn hT)
              replace Dr := Lib.hid (Dr.out.turn hT)
              have Ks := Lib.hid hk
              have Is : Hid (∀ g, (Value.slice sls rows.length cps).ownBlock = some g → wr.heap.size ≤ g ∧ g < ws1.heap.size) := Lib.hid (fun g hg => hk.own.ge hg)
              have Zws1 := Lib.hid hT.chg.size
              clear hsc hM hk hT
              go_upto_region 18 with (refine wpList_store_mid rfl 50 _ _ rfl ws1.heap.size 0 (respL k1 i1 er1 ep1 (.slice sls rows.length cps) t1 l1 o1 f1 c1 n1') ?hxs ?hys ?hts ?his ?h1s ?hrs; (case hxs => exact rfl); (case hys => exact rfl); (case hts => exact there_resp ws1); (case his => kernel_rfl); (case h1s => kernel_rfl))
              have hw2 := resp_set ws1 (.int .i64 k1) (.int .i64 i1) (.int .i64 er1) (.int .i64 ep1) (.slice sls rows.length cps) (.int .i64 t1) (.int .i64 l1) (.int .i64 o1) (.int .i64 f1) (.int .i64 c1) (.int .i64 n1')
              generalize hw : World.setCells (World.alloc ws1 respO) ws1.heap.size 0 _ = ws at *
              obtain ⟨hb, hg⟩ := hw2
              have Ds := Lib.hid (Blk.mk hg (HT.out.m.away (Nat.le_refl _)))
              have Gs := Lib.hid (lt_of_block hg)
              have Zws := Lib.hid hb.size
              replace HT := Lib.hid (HT.out.keep hb)
              replace Ka := Lib.hid (Ka.out.below hb)
              replace Kb := Lib.hid (Kb.out.below hb)
              replace Kr := Lib.hid (Kr.out.below hb)
              replace Dr := Lib.hid (Dr.out.below hb)
              replace Ks := Lib.hid (Ks.out.below hb)
              clear hw hb hg
              have hat := HT.out.at (by omega) 1
              go_wp2_with fail
              refine hat.mono ?_
              rintro e wx ⟨slx, cpx, rfl, hM, hk, hb⟩
              replace HT := Lib.hid hM
              replace Ka := Lib.hid (Ka.out.below hb)
              replace Kb := Lib.hid (Kb.out.below hb)
              replace Kr := Lib.hid (Kr.out.below hb)
              replace Dr := Lib.hid (Dr.out.below hb)
              replace Ks := Lib.hid (Ks.out.below hb)
              replace Ds := Lib.hid (Ds.out.below hb)
              have Kx := Lib.hid hk
              have Ix : Hid (∀ g, (Value.slice slx ((T2.seals 1).getD []).length cpx).ownBlock = some g → ws.heap.size ≤ g ∧ g < wx.heap.size) := Lib.hid (fun g hg => hk.own.ge hg)
              have Zwx := Lib.hid hb.size
              clear hat hM hk hb
              have hat := HT.out.at (by omega) 1
              go_wp2_with fail
              refine hat.mono ?_
              rintro e wy ⟨sly, cpy, rfl, hM, hk, hb⟩
              replace HT := Lib.hid hM
              replace Ka := Lib.hid (Ka.out.below hb)
              replace Kb := Lib.hid (Kb.out.below hb)
              replace Kr := Lib.hid (Kr.out.below hb)
              replace Dr := Lib.hid (Dr.out.below hb)
              replace Ks := Lib.hid (Ks.out.below hb)
              replace Ds := Lib.hid (Ds.out.below hb)
              replace Kx := Lib.hid (Kx.out.below hb)
              have Ky := Lib.hid hk
              have Iy : Hid (∀ g, (Value.slice sly ((T2.seals 1).getD []).length cpy).ownBlock = some g → wx.heap.size ≤ g ∧ g < wy.heap.size) := Lib.hid (fun g hg => hk.own.ge hg)
              have Zwy := Lib.hid hb.size
              clear hat hM hk hb
              have hov := HT.out.over Ka.out (by have := HW0.out;  omega) HL.out
              go_wp2_with fail
              refine hov.mono ?_
              rintro e wo1 ⟨rfl, hM, hc⟩
              replace HT := Lib.hid hM
              replace Kb := Lib.hid (Kb.out.chg hc (fun g hg hn => by have h1 := Ib.out g hg; have h2 := Ia.out g hn; have := Zwa.out; have := Zwb.out; have := Zwr1.out; have := Zwr.out; have := Zws1.out; have := Zws.out; have := Zwx.out; have := Zwy.out; omega))
              replace Kr := Lib.hid (Kr.out.chg hc (fun g hg hn => by have h1 := Ir.out g hg; have h2 := Ia.out g hn; have := Zwa.out; have := Zwb.out; have := Zwr1.out; have := Zwr.out; have := Zws1.out; have := Zws.out; have := Zwx.out; have := Zwy.out; omega))
              replace Dr := Lib.hid (Dr.out.chg hc (fun hn => by have h2 := Ia.out _ hn; have := Gr.out; have := Zwa.out; have := Zwb.out; have := Zwr1.out; have := Zwr.out; have := Zws1.out; have := Zws.out; have := Zwx.out; have := Zwy.out; omega))
              replace Ks := Lib.hid (Ks.out.chg hc (fun g hg hn => by have h1 := Is.out g hg; have h2 := Ia.out g hn; have := Zwa.out; have := Zwb.out; have := Zwr1.out; have := Zwr.out; have := Zws1.out; have := Zws.out; have := Zwx.out; have := Zwy.out; omega))
              replace Ds := Lib.hid (Ds.out.chg hc (fun hn => by have h2 := Ia.out _ hn; have := Gs.out; have := Zwa.out; have := Zwb.out; have := Zwr1.out; have := Zwr.out; have := Zws1.out; have := Zws.out; have := Zwx.out; have := Zwy.out; omega))
              replace Kx := Lib.hid (Kx.out.chg hc (fun g hg hn => by have h1 := Ix.out g hg; have h2 := Ia.out g hn; have := Zwa.out; have := Zwb.out; have := Zwr1.out; have := Zwr.out; have := Zws1.out; have := Zws.out; have := Zwx.out; have := Zwy.out; omega))
              replace Ky := Lib.hid (Ky.out.chg hc (fun g hg hn => by have h1 := Iy.out g hg; have h2 := Ia.out g hn; have := Zwa.out; have := Zwb.out; have := Zwr1.out; have := Zwr.out; have := Zws1.out; have := Zws.out; have := Zwx.out; have := Zwy.out; omega))
              clear hov hM hc Ka Ia
              have rr := Dr.out.at_
              have rx := cell_blk rr 4
              simp at rx
              clear rr
              have hov := HT.out.over Kr.out (by have := HW0.out; have := Zwa.out; have := Zwb.out; omega) (by have := Hrl.out; omega)
              go_wp2_with fail
              refine hov.mono ?_
              rintro e wo2 ⟨rfl, hM, hc⟩
              replace HT := Lib.hid hM
              replace Kb := Lib.hid (Kb.out.chg hc (fun g hg hn => by have h1 := Ib.out g hg; have h2 := Ir.out g hn; have := Zwa.out; have := Zwb.out; have := Zwr1.out; have := Zwr.out; have := Zws1.out; have := Zws.out; have := Zwx.out; have := Zwy.out; omega))
              replace Dr := Lib.hid (Dr.out.chg hc (fun hn => by have h2 := Ir.out _ hn; have := Gr.out; have := Zwa.out; have := Zwb.out; have := Zwr1.out; have := Zwr.out; have := Zws1.out; have := Zws.out; have := Zwx.out; have := Zwy.out; omega))
              replace Ks := Lib.hid (Ks.out.chg hc (fun g hg hn => by have h1 := Is.out g hg; have h2 := Ir.out g hn; have := Zwa.out; have := Zwb.out; have := Zwr1.out; have := Zwr.out; have := Zws1.out; have := Zws.out; have := Zwx.out; have := Zwy.out; omega))
              replace Ds := Lib.hid (Ds.out.chg hc (fun hn => by have h2 := Ir.out _ hn; have := Gs.out; have := Zwa.out; have := Zwb.out; have := Zwr1.out; have := Zwr.out; have := Zws1.out; have := Zws.out; have := Zwx.out; have := Zwy.out; omega))
              replace Kx := Lib.hid (Kx.out.chg hc (fun g hg hn => by have h1 := Ix.out g hg; have h2 := Ir.out g hn; have := Zwa.out; have := Zwb.out; have := Zwr1.out; have := Zwr.out; have := Zws1.out; have := Zws.out; have := Zwx.out; have := Zwy.out; omega))
              replace Ky := Lib.hid (Ky.out.chg hc (fun g hg hn => by have h1 := Iy.out g hg; have h2 := Ir.out g hn; have := Zwa.out; have := Zwb.out; have := Zwr1.out; have := Zwr.out; have := Zws1.out; have := Zws.out; have := Zwx.out; have := Zwy.out; omega))
              clear hov hM hc Kr Ir
              clear rx
              clear Dr
              have hov := HT.out.over Kx.out (by have := HW0.out; have := Zwa.out; have := Zwb.out; have := Zwr1.out; have := Zwr.out; have := Zws1.out; have := Zws.out; omega) (by have := HT.out.m.maxE (by omega) 1; cases h : T2.seals 1 with | none => simp | some L => exact this L h)
              go_wp2_with fail
              refine hov.mono ?_
              rintro e wo3 ⟨rfl, hM, hc⟩
              replace HT := Lib.hid hM
              replace Kb := Lib.hid (Kb.out.chg hc (fun g hg hn => by have h1 := Ib.out g hg; have h2 := Ix.out g hn; have := Zwa.out; have := Zwb.out; have := Zwr1.out; have := Zwr.out; have := Zws1.out; have := Zws.out; have := Zwx.out; have := Zwy.out; omega))
              replace Ks := Lib.hid (Ks.out.chg hc (fun g hg hn => by have h1 := Is.out g hg; have h2 := Ix.out g hn; have := Zwa.out; have := Zwb.out; have := Zwr1.out; have := Zwr.out; have := Zws1.out; have := Zws.out; have := Zwx.out; have := Zwy.out; omega))
              replace Ds := Lib.hid (Ds.out.chg hc (fun hn => by have h2 := Ix.out _ hn; have := Gs.out; have := Zwa.out; have := Zwb.out; have := Zwr1.out; have := Zwr.out; have := Zws1.out; have := Zws.out; have := Zwx.out; have := Zwy.out; omega))
              replace Ky := Lib.hid (Ky.out.chg hc (fun g hg hn => by have h1 := Iy.out g hg; have h2 := Ix.out g hn; have := Zwa.out; have := Zwb.out; have := Zwr1.out; have := Zwr.out; have := Zws1.out; have := Zws.out; have := Zwx.out; have := Zwy.out; omega))
              clear hov hM hc Kx Ix
              have hsc := Hscan.out _ _ HT.out
              go_wp2_with (first | (refine wpList_build2 (t := 30) rfl _ rfl #[.int .i64 3, .int .i64 0, .int .i64 1, .slice none 0 0, .int .i64 0, .string ⟨#[]⟩, .int .i64 0, .int .i64 4, .string ⟨#[]⟩, .int .i64 0, .int .i64 99] (by kernel_rfl) ?_) | (refine wpList_build2 (t := 28) rfl _ rfl #[.int .i64 4, .string ⟨#[]⟩, .int .i64 0] (by kernel_rfl) ?_))
              refine hsc.mono ?_
              rintro e wt1 ⟨slt, cpt, Bt, rfl, hM, hk, hT⟩
              replace HT := Lib.hid hM
              replace Kb := Lib.hid (Kb.out.turn hT)
              replace Ks := Lib.hid (Ks.out.turn hT)
              replace Ds := Lib.hid (Ds.out.turn hT)
              replace Ky := Lib.hid (Ky.out.turn hT)
              have Kt := Lib.hid hk
              have It : Hid (∀ g, (Value.slice slt rows.length cpt).ownBlock = some g → wo3.heap.size ≤ g ∧ g < wt1.heap.size) := Lib.hid (fun g hg => hk.own.ge hg)
              have Zwt1 := Lib.hid hT.chg.size
              clear hsc hM hk hT
              go_upto_region 24 with (refine wpList_store_mid rfl 50 _ _ rfl wt1.heap.size 0 (respL k1 i1 er1 ep1 (.slice slt rows.length cpt) t1 l1 o1 f1 c1 n1') ?hxt ?hyt ?htt ?hit ?h1t ?hrt; (case hxt => exact rfl); (case hyt => exact rfl); (case htt => exact there_resp wt1); (case hit => kernel_rfl); (case h1t => kernel_rfl))
              have hw2 := resp_set wt1 (.int .i64 k1) (.int .i64 i1) (.int .i64 er1) (.int .i64 ep1) (.slice slt rows.length cpt) (.int .i64 t1) (.int .i64 l1) (.int .i64 o1) (.int .i64 f1) (.int .i64 c1) (.int .i64 n1')
              generalize hw : World.setCells (World.alloc wt1 respO) wt1.heap.size 0 _ = wt at *
              obtain ⟨hb, hg⟩ := hw2
              have Dt := Lib.hid (Blk.mk hg (HT.out.m.away (Nat.le_refl _)))
              have Gt := Lib.hid (lt_of_block hg)
              have Zwt := Lib.hid hb.size
              replace HT := Lib.hid (HT.out.keep hb)
              replace Kb := Lib.hid (Kb.out.below hb)
              replace Ks := Lib.hid (Ks.out.below hb)
              replace Ds := Lib.hid (Ds.out.below hb)
              replace Ky := Lib.hid (Ky.out.below hb)
              replace Kt := Lib.hid (Kt.out.below hb)
              clear hw hb hg
              have hat := HT.out.at (by omega) 1
              go_wp2_with fail
              refine hat.mono ?_
              rintro e wz ⟨slz, cpz, rfl, hM, hk, hb⟩
              replace HT := Lib.hid hM
              replace Kb := Lib.hid (Kb.out.below hb)
              replace Ks := Lib.hid (Ks.out.below hb)
              replace Ds := Lib.hid (Ds.out.below hb)
              replace Ky := Lib.hid (Ky.out.below hb)
              replace Kt := Lib.hid (Kt.out.below hb)
              replace Dt := Lib.hid (Dt.out.below hb)
              have Kz := Lib.hid hk
              have Iz : Hid (∀ g, (Value.slice slz ((T2.seals 1).getD []).length cpz).ownBlock = some g → wt.heap.size ≤ g ∧ g < wz.heap.size) := Lib.hid (fun g hg => hk.own.ge hg)
              have Zwz := Lib.hid hb.size
              clear hat hM hk hb
              have hmap := HT.out.map (by omega)
              go_wp2_with fail
              refine hmap.mono ?_
              rintro e wm ⟨slm, cpm, rfl, hM, hk, hb⟩
              replace HT := Lib.hid hM
              replace Kb := Lib.hid (Kb.out.below hb)
              replace Ks := Lib.hid (Ks.out.below hb)
              replace Ds := Lib.hid (Ds.out.below hb)
              replace Ky := Lib.hid (Ky.out.below hb)
              replace Kt := Lib.hid (Kt.out.below hb)
              replace Dt := Lib.hid (Dt.out.below hb)
              replace Kz := Lib.hid (Kz.out.below hb)
              have Km := Lib.hid hk
              have Im : Hid (∀ g, (Value.slice slm T2.L.length cpm).ownBlock = some g → wz.heap.size ≤ g ∧ g < wm.heap.size) := Lib.hid (fun g hg => hk.own.ge hg)
              have Zwm := Lib.hid hb.size
              clear hmap hM hk hb
              have hsam := sameRows_any slm cpm T2.L slb cpb T2.L wm (Km.out.own.sl0 (fun _ => rfl)) (Kb.out.own.sl0 (fun _ => rfl)) (by have := HL.out; omega)
              simp only [decide_true] at hsam
              go_wp2_with fail
              refine hsam.mono ?_
              rintro e w21 ⟨rfl, hb⟩
              clear hsam
              replace HT := Lib.hid (HT.out.keep hb)
              replace Kb := Lib.hid (Kb.out.below hb)
              replace Ks := Lib.hid (Ks.out.below hb)
              replace Ds := Lib.hid (Ds.out.below hb)
              replace Ky := Lib.hid (Ky.out.below hb)
              replace Kt := Lib.hid (Kt.out.below hb)
              replace Dt := Lib.hid (Dt.out.below hb)
              replace Kz := Lib.hid (Kz.out.below hb)
              replace Km := Lib.hid (Km.out.below hb)
              clear hb
              have ds := Ds.out.at_
              have dt := Dt.out.at_
              have p0 := cell_blk ds 0
              have q0 := cell_blk dt 0
              have p1 := cell_blk ds 1
              have q1 := cell_blk dt 1
              have p2 := cell_blk ds 2
              have q2 := cell_blk dt 2
              have p3 := cell_blk ds 3
              have q3 := cell_blk dt 3
              have p4 := cell_blk ds 4
              have q4 := cell_blk dt 4
              have p5 := cell_blk ds 5
              have q5 := cell_blk dt 5
              have p6 := cell_blk ds 6
              have q6 := cell_blk dt 6
              have p7 := cell_blk ds 7
              have q7 := cell_blk dt 7
              have p8 := cell_blk ds 8
              have q8 := cell_blk dt 8
              have p9 := cell_blk ds 9
              have q9 := cell_blk dt 9
              have p10 := cell_blk ds 10
              have q10 := cell_blk dt 10
              simp at p0 q0 p1 q1 p2 q2 p3 q3 p4 q4 p5 q5 p6 q6 p7 q7 p8 q8 p9 q9 p10 q10
              clear ds dt
              have hsr := sameRsp_any k1 i1 er1 ep1 t1 l1 o1 f1 c1 n1' sls cps slt cpt rows w21 (Ks.out.own.sl0 (fun _ => rfl)) (Kt.out.own.sl0 (fun _ => rfl)) (by have := Hrl.out; omega)
              go_wp2_with fail
              refine hsr.mono ?_
              rintro e w22 ⟨rfl, hb⟩
              clear hsr p0 q0 p1 q1 p2 q2 p3 q3 p4 q4 p5 q5 p6 q6 p7 q7 p8 q8 p9 q9 p10 q10
              replace HT := Lib.hid (HT.out.keep hb)
              replace Kb := Lib.hid (Kb.out.below hb)
              replace Ks := Lib.hid (Ks.out.below hb)
              replace Ds := Lib.hid (Ds.out.below hb)
              replace Ky := Lib.hid (Ky.out.below hb)
              replace Kt := Lib.hid (Kt.out.below hb)
              replace Dt := Lib.hid (Dt.out.below hb)
              replace Kz := Lib.hid (Kz.out.below hb)
              replace Km := Lib.hid (Km.out.below hb)
              clear hb
              have hsy := sameRows_any sly cpy ((T2.seals 1).getD []) slz cpz ((T2.seals 1).getD []) w22 (Ky.out.own.sl0 (fun _ => rfl)) (Kz.out.own.sl0 (fun _ => rfl)) (by have := HT.out.m.maxE (by omega) 1; cases h : T2.seals 1 with | none => simp | some L => have := this L h; simp; omega)
              simp only [decide_true] at hsy
              go_wp2_with fail
              refine hsy.mono ?_
              rintro e w23 ⟨rfl, hb⟩
              clear hsy
              replace HT := Lib.hid (HT.out.keep hb)
              clear hb
              have hnm := HT.out.o.map (by omega)
              go_wp2_with fail
              refine hnm.mono ?_
              rintro e w24 ⟨vn, rfl, hon, hb⟩
              obtain ⟨an, cn, rfl, _⟩ := hon.sl fun _ => rfl
              have hl0 : (Mst.new c).L.length = 0 := rfl
              rw [hl0]
              replace HT := Lib.hid (HT.out.keep hb)
              clear hnm hon hb hl0
              have hns : Calls Tryz.prog 16 #[.pointer (some ⟨mp2, 0, none⟩)] w24 fun e w' => e = .returned (statV 0 0 0 0 0 1) ∧ Below w24.heap.size w24 w' := HT.out.o.stats
              have hneS := fun W => run_neq_stats 0 0 0 0 0 1 0 0 0 0 0 1 W
              simp only [decide_true, Bool.not_true] at hneS
              go_wp2_with fail
              refine hns.mono ?_
              rintro e w25 ⟨rfl, hb⟩
              replace HT := Lib.hid (HT.out.keep hb)
              clear hns hb
              go_wp2_with fail
              go_roundg (gk - 1)
              case measure => have := Hj.out; omega
              case rel => exact ⟨j + 1, n2, T2, _, by have := Hj.out; omega, by go_num, by omega, by omega, HT.out⟩
        · have hxx : ¬ ((j : Int) < (l.length : Int)) ∨ ((j : Int) < (l.length : Int) ∧ ¬ ((j : Int) < 40)) := by omega
          clear hj hM hj40 hbw hlt hn
          rcases hxx with h1 | ⟨h1, h2⟩
          · go_wp2_with fail
            go_meet
            exact ⟨n, T, B, HM.out⟩
          · go_wp2_with fail
            go_meet
            exact ⟨n, T, B, HM.out⟩
    case rest =>
      obtain ⟨n, T, B, hM⟩ := hcut
      go_wp2_with fail
      refine (hhead _).mono ?_
      rintro e w9 ⟨rfl, hb9⟩
      have HM9 := Lib.hid (hM.keep hb9)
      clear hM hb9
      go_wp2_with fail
      go_ret
      exact ⟨rfl, Hb1.out.trans (HM9.out.m.below.mono Hb1.out.size)⟩
/-- As the law's arguments lie. -/
theorem own_top (c : Cfg) (A : Option Addr) (cap : Nat) (A1 : Option Addr) (cap1 : Nat) (l : List Opx) (W : World)
    (hs : Sl 3 viewL W A c.vs) (h1 : c.vs.length ≤ cap) (h2 : cap ≤ maxLen) (hs1 : Sl 25 opL W A1 l) (hok : ∀ o ∈ l, OpOk W o) (h3 : l.length ≤ cap1) (h4 : cap1 ≤ maxLen) :
    Calls Tryz.prog 6 #[cfgV c A cap, .slice A1 l.length cap1] W fun e W' => e = .returned (.bool true) ∧ Below W.heap.size W W' := by
  have hm : maxLen ≤ 9223372036854775807 := by decide
  exact own_any c A cap A1 cap1 l W hs (by omega) hs1 hok (by omega)
end Go.Proofs.YtaicecnfodhlcaaGreat
/- ModelOwn: the Go function 'spate/spatelaw19.ModelOwn' returns true and its arguments read afterwards as before, in every world. Conditions: none. -/
set_option linter.unusedVariables false
namespace Go.Proofs.YtaicecnfodhlcaaGreat.modelOwn
open Go.ChangeShapes Go.WideShapes Go.ChangeAt Go.RowKit Go.ChangeMaps

theorem own : ownKnob Tryz.prog.godebug = none := by kernel_rfl

set_option maxRecDepth 100000 in
theorem contract (H : Type) (enc : TypeId × Value → H) (W : World) (base : Nat) (args : Array Value) (ds gs : List (DataW H)) (before : List MemPlace)
    (hval : ∀ (j : Nat) t v, Tryz.f6.params[j]? = some t → args[j]? = some v → Value.okWide Tryz.prog W .any base t v)
    (hW : DataW.Whole enc Tryz.prog Tryz.f6.params.toList Rows.modelOwnSpec.vars false W args.toList ds gs before) :
    Calls Tryz.prog 6 args W fun e W' => ∃ v, e = .returned v ∧ Rows.modelOwnSpec.post enc Tryz.prog Tryz.f6 false true false false W args v W' := by
  have hW' := hW
  obtain ⟨p, q, hA0, hV, rfl, hfz, hnd⟩ := hW
  have hA : DataW.TrodAll enc Tryz.prog W 0 (fun _ => true) true Tryz.f6.params.toList args.toList ds p := hA0
  rw [Tryz.params6] at hA hval
  obtain ⟨v0, vs0, d0, ds0, p0, q0, hargs, rfl, rfl, ⟨n0, h0⟩, r0⟩ := trodAll_cons hA
  obtain ⟨v1, vs1, d1, ds1, p1, q1, rfl, rfl, rfl, ⟨n1, h1⟩, r1⟩ := trodAll_cons r0
  obtain ⟨rfl, rfl, rfl⟩ := trodAll_nil r1
  obtain rfl : args = #[v0, v1] := by
    obtain ⟨l⟩ := args
    exact congrArg Array.mk hargs
  obtain ⟨rfl, rfl⟩ := trodVars_none hV
  obtain ⟨⟨a0⟩, rfl, _⟩ := okWide_struct Tryz.underlying24 (hval 0 24 v0 rfl rfl)
  obtain ⟨c0, A0, cap0, e0, hs0, k0, m0⟩ := cfg_of h0
  have e0 : a0 = _ := e0
  subst e0
  obtain ⟨A1, len1, cap1, rfl⟩ := okWide_slice Tryz.underlying25 (hval 1 25 v1 rfl rfl)
  obtain ⟨A1', cap1', l1, e1, hs1, hok1, k1, m1⟩ := ops_of h1
  cases e1
  refine (own_top c0 A0 cap0 A1 cap1 l1 W hs0 k0 m0 hs1 hok1 k1 m1).mono fun e W' ⟨he, hg⟩ => ?_
  subst he
  exact ⟨_, rfl, post_true hW' rfl rfl rfl (by kernel_rfl) (by kernel_rfl) hg⟩

set_option maxRecDepth 100000 in
theorem lifted (os : Os) (started : os.Started) (H : Type) (enc : TypeId × Value → H) :
    ReturnsInHanded {} Tryz.checked os 6 .any (Rows.modelOwnSpec.pre6 enc Tryz.prog Tryz.f6 Rows.modelOwnRow.domain false) (Rows.modelOwnSpec.post enc Tryz.prog Tryz.f6 false true false false) := by
  refine returnsInHanded_of_change (C := Tryz.checked) own started (by kernel_rfl) Tryz.func6
    (ChangeSpec.witness6 (enc := enc) (C := Tryz.checked) false ⟨#[], #[.agg #[.slice none 0 0, .int .i64 0, .int .i64 0, .int .i64 0, .int .i64 0, .int .i64 0, .int .i64 0, .int .i64 0, .int .i64 0, .int .i64 0, .int .i64 0, .int .i64 0], .slice none 0 0], []⟩ 12 (by kernel_rfl) (by kernel_rfl) (by kernel_rfl) (by kernel_rfl)) ?_
  intro W base args ds gs before hval0 hW hcnd _
  exact contract H enc W base args ds gs before hval0 hW

theorem over : Rows.modelOwnRow.holds Tryz.pinned (OpenSpec.ofChange Rows.modelOwnSpec) :=
  OpenClaim.holds_of_wide 6 Tryz.f6 rfl rfl rfl rfl rfl rfl rfl ⟨rfl, rfl, rfl, rfl, rfl⟩ rfl rfl rfl rfl rfl (by kernel_rfl) Tryz.func6 (by kernel_rfl)
    (of_decide_eq_true (by kernel_rfl)) (by unfold Func.isWrapper; first | (rw [if_pos (by decide +kernel)]; kernel_rfl) | (rw [if_neg (by decide +kernel)]; exact ⟨rfl, rfl⟩))
    (fun os started H enc _ => lifted os started H enc)

theorem proved : Rows.ModelOwnSaid :=
  over
#print axioms proved
end Go.Proofs.YtaicecnfodhlcaaGreat.modelOwn
