/- An append that stays in its row or moves into a new block. -/
import Derived.Test.YtaicecnfodhlcaaGreatJ21
import Derived.Maps.AppendAt
import Derived.Test.YtaicecnfodhlcaaGreatJ03
import Derived.Deep.MidRow
import Derived.Test.YtaicecnfodhlcaaGreatJ22
import Derived.Test.YtaicecnfodhlcaaGreatJ10
import Derived.Test.YtaicecnfodhlcaaGreatJ23
import Derived.Test.YtaicecnfodhlcaaGreatJ20
import Derived.Test.YtaicecnfodhlcaaGreatJ18
import Derived.Test.YtaicecnfodhlcaaGreatShelf2
import Derived.Deep.CutBlock
import Derived.Deep.DeepCutAuto
import Derived.Test.YtaicecnfodhlcaaGreatJ02
set_option linter.unusedVariables false
set_option linter.unusedSimpArgs false
namespace Go.Proofs.YtaicecnfodhlcaaGreat
open Go.RowKit

/-- append of at least one element: the new slice lies in the old row, or in a new block and nothing that was there has turned. -/
theorem run_app2 {P : Program} (w : World) (base t ty e : Nat) (i : TypeInfo) (z : Value) (size bytes : Nat) (ht : P.underlying t = some (.slice e)) (hi : P.info? e = some i) (hz : i.zero = some z)
    (hsize : i.size = size) (hby : i.bytes = bytes) (hzs : z.cells.size = size) (hsz : 0 < size) (v : Value) (n : Nat) (xs : List Value) (hown : w.ownsRow base e size v n xs)
    (a : Addr) (m c : Nat) (h0 : 0 < m) (news : List Value) (hl : news.length = m * size) (hnews : ∀ j u, news[j]? = some u → w.cell? (a.add j) = some u) (h1 : ∀ u ∈ news, u.oneCell' = true)
    (h63 : n + m ≤ maxLen) (hbytes : (n + m) * bytes ≤ 140737488355328) (hbase : base ≤ w.heap.size) :
    ∃ v' w', (Builtin.append_ #[t, t] ty #[v, .slice (some a) m c]).run P w = .ok v' w' ∧ w'.ownsRow base e size v' (n + m) (xs ++ news) ∧
      ((v'.ownBlock = v.ownBlock ∧ v.ownBlock ≠ none ∧ w.grownBy w' v.ownBlock) ∨ (v'.ownBlock = some w.heap.size ∧ w.grownBy w' none)) := by
  have hsm : n + m ≤ 9223372036854775807 := by unfold maxLen at h63; omega
  obtain ⟨v', w', hr, h2, h3, h4, h5⟩ := run_append_own_at (P := P) w base t ty e i z size bytes ht hi hz hsize hby hzs hsz v n xs hown a m c news hl hnews h1 h63 hbytes hbase
  refine ⟨v', w', hr, h2, ?_⟩
  have hnone : ∀ o : Obj, w.grownBy (w.drew.alloc o) none := fun o => ⟨rfl, rfl, rfl, by simp, fun k hk _ => Below.heap_alloc w.drew o k hk⟩
  rcases hown.2 with ⟨rfl, rfl⟩ | ⟨g, cap, cur, rfl, hbg, hg, hnc, hcm, hcs, htake⟩
  · have hr2 := run_append_nil (P := P) w t ty e i z ht hi hz a m c news (by rw [hl, hsize]) hnews h0 (by omega) (by rw [hby]; simp at hbytes; omega)
    rw [hr2] at hr
    cases hr
    exact .inr ⟨rfl, hnone _⟩
  · by_cases hroom : n + m ≤ cap
    · have hr2 := run_append_room (P := P) w t ty e i ht hi g n cap cur hg a m c news (by rw [hl, hsize]) hnews h1 hroom (by rw [hl, hcs, hsize, ← Nat.add_mul]; exact Nat.mul_le_mul_right _ hroom)
      rw [hr2] at hr
      cases hr
      exact .inl ⟨rfl, by simp [Value.ownBlock], h3⟩
    · have hr2 := run_append_grow (P := P) w t ty e i z ht hi hz ⟨g, 0, none⟩ n cap xs (by rw [hown.1, hsize]) (hown.cells (g := g) rfl) a m c news (by rw [hl, hsize]) hnews (by omega) (by omega) (growslice_fits (by omega) (by rw [hby]; exact hbytes))
      rw [hr2] at hr
      cases hr
      exact .inr ⟨rfl, hnone _⟩

/-- The builtin append of elements onto a slice of the call's own, with where it lies. -/
theorem wpList_app2 {α : Type} {P : Program} {ops : Array Oper} {Q : Exit → Act → World → Prop} {a : Act} {w : World} {rest : List Oper} {o : Oper} {t e sz bytes : Nat} (K : SlT P t e sz bytes)
    (hgd : o.guard = none) (s x : Operand) (ho : o.op = .call { callee := .builtin .append, args := #[s, x], argTypes := #[t, t] })
    (enc : α → List Value) (hz : ∀ x, (enc x).length = sz) (h1 : Cells1 enc) (B : Nat) (v : Value) (xs : List α) (hs : a.eval s = v) (hown : Own e sz enc B w v xs)
    (b off : Nat) (m c : Nat) (ys : List α) (hx : a.eval x = .slice (some ⟨b, off, none⟩) m c) (hm : m = ys.length) (h0 : 0 < m) (hsl : Sl sz enc w (some ⟨b, off, none⟩) ys) (hmax : xs.length + ys.length ≤ 1000000000) (hby : bytes ≤ 1024) (hB : B ≤ w.heap.size)
    (h : ∀ v' w', Own e sz enc B w' v' (xs ++ ys) → ((v'.ownBlock = v.ownBlock ∧ v.ownBlock ≠ none ∧ w.grownBy w' v.ownBlock) ∨ (v'.ownBlock = some w.heap.size ∧ w.grownBy w' none)) → wpList P ops Q rest (a.put o.dst v') w') : wpList P ops Q (o :: rest) a w := by
  subst hm
  obtain ⟨ht, hsz, i, z, hi, hz0, hsize, hbytes, hzs⟩ := K
  have hb : (xs.length + ys.length) * bytes ≤ 140737488355328 := Nat.le_trans (Nat.mul_le_mul hmax hby) (by omega)
  have hm : xs.length + ys.length ≤ maxLen := by unfold maxLen; omega
  obtain ⟨v', w', hr, h2, h3⟩ := run_app2 (P := P) w B t o.type e i z sz bytes ht hi hz0 hsize hbytes hzs hsz v xs.length (xs.flatMap enc) hown ⟨b, off, none⟩ ys.length c h0 (ys.flatMap enc) (flat_length hz ys) (hsl.flat hz) (fun u hu => by obtain ⟨y, _, hy⟩ := List.mem_flatMap.1 hu; exact h1 y u hy) hm hb hB
  refine wpList_plain hgd fun K' hK => ?_
  unfold Oper.wp execOp
  simp only [ho, resolve, invoke, builtin, Sem.run_bind, Sem.run_pure, Result.andThen_ok, List.map_toArray, List.map_cons, List.map_nil, hs, hx, hr]
  refine hK _ _ (h v' w' ?_ h3)
  unfold Own; simpa using h2

end Go.Proofs.YtaicecnfodhlcaaGreat
/- over: rows of the law's own are written over. -/
set_option linter.unusedVariables false
set_option linter.unusedSimpArgs false
namespace Go.Proofs.YtaicecnfodhlcaaGreat
open Go.RowKit Go.Deep

theorem chg_setCells (b : Nat) : ∀ (vs : List Value) (o : Nat) (w : World), Chg [b] w (w.setCells b o vs)
  | [], _, w => ⟨rfl, rfl, rfl, Nat.le_refl _, fun _ _ _ => rfl⟩
  | v :: r, o, w => by
    rw [World.setCells]
    exact (Chg.set w (a := ⟨b, o, none⟩) (by simp) v).trans (chg_setCells b r (o + 1) _)
/-- Room for so many rows. -/
def Room (w : World) (g n : Nat) : Prop := ∀ j, j < n * 7 → (w.cell? ⟨g, j, none⟩).isSome = true ∧ w.frozen? ⟨g, j, none⟩ = false
theorem Own.room {w : World} {E g n cap : Nat} {xs : List Rw} (h : Own 93 7 rowL E w (.slice (some ⟨g, 0, none⟩) n cap) xs) : Room w g xs.length := by
  intro j hj
  refine ⟨?_, h.frozen j⟩
  have hi : j / 7 < xs.length := by omega
  obtain ⟨b, off, e, _, hc⟩ := (h.sl0 (fun _ => rfl)) (j / 7) hi
  injection e with e
  injection e with e1 e2
  subst e1
  subst e2
  have hl : j % 7 < (rowL xs[j / 7]).length := Nat.mod_lt _ (by omega)
  have h1 := hc (j % 7) _ (List.getElem?_eq_getElem hl)
  have e3 : 0 + j / 7 * 7 + j % 7 = j := by omega
  rw [e3] at h1
  rw [h1]
  rfl
theorem Room.mono {w : World} {g n m : Nat} (h : Room w g n) (hm : m ≤ n) : Room w g m := fun j hj => h j (by have : m * 7 ≤ n * 7 := Nat.mul_le_mul_right 7 hm; omega)
theorem Room.set {w : World} {g n : Nat} (h : Room w g n) (b o : Nat) (vs : List Value) : Room (w.setCells b o vs) g n := fun j hj => ⟨World.isSome_setCells b vs o w _ (h j hj).1, by rw [World.frozen?_setCells]; exact (h j hj).2⟩
theorem Room.keep {w w' : World} {g n : Nat} (h : Room w g n) (hb : w'.heap[g]? = w.heap[g]?) : Room w' g n := fun j hj => by
  have h1 := h j hj
  rw [World.cell?_of_block (a := ⟨g, j, none⟩) hb, World.frozen?_of_block (a := ⟨g, j, none⟩) hb]
  exact h1
theorem Room.at {w : World} {g n : Nat} (h : Room w g n) {i : Nat} (hi : i < n) : World.there w g (0 + i * 7) 7 := fun j hj => by
  have := h (0 + i * 7 + j) (by omega)
  exact this
theorem Room.atN {w : World} {g n : Nat} (h : Room w g n) {i : Nat} (hi : i < n) {k o : Nat} (hk : k = 7) (ho : o = i * 7) : World.there w g o k := by
  subst hk
  subst ho
  intro j hj
  exact h (i * 7 + j) (by omega)
/-- A row of zeroes but for its view. -/
abbrev rowN (n : Int) : Rw := ⟨⟨n, ByteArray.empty, 0⟩, ⟨0, 0, 0, 0⟩⟩
theorem ChgP.sub {p : Nat → Prop} {a b c : World} (h : ChgP p a b) {l : List Nat} (k : Chg l b c) (hl : ∀ g ∈ l, p g ∨ a.heap.size ≤ g) : ChgP p a c := h.late (ChgP.of k) hl
set_option maxRecDepth 100000 in
set_option maxHeartbeats 4000000 in
theorem over_any (v : Value) (xs : List Rw) (E : Nat) (w : World) (hown : Own 93 7 rowL E w v xs) (hl : xs.length ≤ 100000000) :
    Calls Tryz.prog 30 #[v] w fun e w' => e = .returned (.tuple #[]) ∧ ChgP (fun g => v.ownBlock = some g) w w' := by
  obtain ⟨oa, oc, rfl, _⟩ := hown.sl fun _ => rfl
  have hz : ∀ o : Obj, (w.alloc o).heap.size = w.heap.size + 1 := fun o => by simp
  have hb1 : ∀ o : Obj, Below w.heap.size w (w.alloc o) := fun o => (Below.refl _ _).alloc (Nat.le_refl _) o
  have hown1 := fun o => (hown.below (hb1 o)).mono (Nat.zero_le E)
  have hsl : Sl 7 rowL (w.alloc (.cells #[.int .i64 0, .string ByteArray.empty, .int .i64 0, .int .i64 0, .int .i64 0, .int .i64 0, .int .i64 0, .int .i64 0, .string ByteArray.empty, .int .i64 0, .int .i64 0, .int .i64 0, .int .i64 0, .int .i64 0] 93)) (some ⟨w.heap.size, 0, none⟩) [rowN 0, rowN 0] := by
    have hg : (w.alloc (.cells #[.int .i64 0, .string ByteArray.empty, .int .i64 0, .int .i64 0, .int .i64 0, .int .i64 0, .int .i64 0, .int .i64 0, .string ByteArray.empty, .int .i64 0, .int .i64 0, .int .i64 0, .int .i64 0, .int .i64 0] 93)).heap[w.heap.size]? = _ := blk_at rfl
    intro i hi
    refine ⟨w.heap.size, 0, rfl, by simp, fun j u hu => ?_⟩
    rw [cell_blk hg]
    have hj : j < 7 := by
      have := (List.getElem?_eq_some_iff.1 hu).1
      match i, hi with
      | 0, _ => exact this
      | 1, _ => exact this
    match i, hi, j, hj with
    | 0, _, 0, _ => exact hu
    | 0, _, 1, _ => exact hu
    | 0, _, 2, _ => exact hu
    | 0, _, 3, _ => exact hu
    | 0, _, 4, _ => exact hu
    | 0, _, 5, _ => exact hu
    | 0, _, 6, _ => exact hu
    | 1, _, 0, _ => exact hu
    | 1, _, 1, _ => exact hu
    | 1, _, 2, _ => exact hu
    | 1, _, 3, _ => exact hu
    | 1, _, 4, _ => exact hu
    | 1, _, 5, _ => exact hu
    | 1, _, 6, _ => exact hu
  have Hown := Lib.hid hown
  have Hown1 := Lib.hid hown1
  have Hb1 := Lib.hid hb1
  have Hz := Lib.hid hz
  have Hsl := Lib.hid hsl
  clear hown hown1 hb1 hz hsl
  go_enter Tryz.func30, Tryz.ntmps30
  go_wp2_with (at_builtin; (refine wpList_app2 st_rowG rfl _ _ rfl rowL (fun _ => rfl) cells1_row 0 _ xs rfl (Hown1.out _) w.heap.size 0 2 2 [rowN 0, rowN 0] rfl rfl (by decide) Hsl.out (by show xs.length + 2 ≤ _; omega) (by decide) (Nat.zero_le _) ?_))
  intro v' w2 hown2 hv2
  obtain ⟨oa2, oc2, rfl, _⟩ := hown2.sl fun _ => rfl
  have hlen : (xs ++ [rowN 0, rowN 0]).length = xs.length + 2 := by simp
  have hroom := hown2.pos (by rw [hlen]; omega)
  obtain ⟨g2, rfl, _, hg2lt⟩ := hroom
  have hroom := hown2.room
  rw [hlen] at hroom
  have hall : ChgP (fun g => (Value.slice oa xs.length oc).ownBlock = some g) w w2 ∧ (∀ g, oa = some ⟨g, 0, none⟩ → Room w2 g xs.length ∧ (Value.slice oa xs.length oc).ownBlock = some g) ∧ ((Value.slice oa xs.length oc).ownBlock = some g2 ∨ w.heap.size ≤ g2) := by
    rcases hv2 with ⟨e1, e2, e3⟩ | ⟨e1, e3⟩
    · refine ⟨⟨e3.os, e3.tape, e3.output, by have := e3.size; rw [Hz.out] at this; omega, fun g hg hn => ?_⟩, fun g e => ?_, Or.inl e1.symm⟩
      · rw [e3.block g (by rw [Hz.out]; omega) (fun e => hn e.symm)]
        exact (Hb1.out _).block g hg
      · subst e
        have e4 : g2 = g := by
          have h1 : some g2 = some g := e1
          injection h1
        subst e4
        exact ⟨hroom.mono (by omega), rfl⟩
    · refine ⟨⟨e3.os, e3.tape, e3.output, by have := e3.size; rw [Hz.out] at this; omega, fun g hg _ => ?_⟩, fun g e => ?_, ?_⟩
      · rw [e3.block g (by rw [Hz.out]; omega) (fun e => nomatch e)]
        exact (Hb1.out _).block g hg
      · subst e
        have hgl := (Hown.out.ge (g := g) rfl).2
        refine ⟨Hown.out.room.keep ?_, rfl⟩
        rw [e3.block g (by rw [Hz.out]; omega) (fun e => nomatch e)]
        exact (Hb1.out _).block g hgl
      · have h1 : some g2 = some _ := e1
        injection h1 with h1
        right
        first | omega | (rw [Hz.out] at h1; omega)
  obtain ⟨hch, hra, hg2⟩ := hall
  have Hch := Lib.hid hch
  have Hra := Lib.hid hra
  have Hroom := Lib.hid hroom
  have Hg2 := Lib.hid hg2
  rw [hlen]
  clear hown2 hv2 hlen hroom hch hra hg2
  go_wp2_with fail
  go_loopg [3] (xs.length + 2) (fun g i wr => ∃ j : Nat, j + g = xs.length + 2 ∧ i = .int .i64 j ∧ Room wr g2 (xs.length + 2) ∧ (∀ g, oa = some ⟨g, 0, none⟩ → Room wr g xs.length) ∧ ChgP (fun g => (Value.slice oa xs.length oc).ownBlock = some g) w wr)
  case atStart => exact ⟨0, by omega, rfl, Hroom.out, fun g e => (Hra.out g e).1, Hch.out⟩
  case round =>
    obtain ⟨j, hj, rfl, hr2, hro, hc⟩ := hrel
    have Hj := Lib.hid hj
    have Hr2 := Lib.hid hr2
    have Hro := Lib.hid hro
    have Hc := Lib.hid hc
    clear hj hr2 hro hc
    by_cases hlt : j < xs.length + 2
    · have hjl : (j : Int) < (xs.length : Int) + 2 := by omega
      go_wp2_with (refine wpList_store_mid rfl 93 _ _ rfl g2 ?oo ?cc ?hx ?hy ?ht ?hi ?h1 ?hrest; (case hx => exact rfl); (case hy => exact rfl); (case ht => exact Hr2.out.atN hlt rfl rfl); (case hi => kernel_rfl); (case h1 => kernel_rfl))
      go_roundg (gk - 1)
      case measure => have := Hj.out; omega
      case rel => exact ⟨j + 1, by have := Hj.out; omega, by go_num, Hr2.out.set _ _ _, fun g e => (Hro.out g e).set _ _ _, Hc.out.sub (chg_setCells _ _ _ _) (fun g hg => by rw [List.mem_singleton.1 hg]; exact Hg2.out)⟩
    · have hjn : j = xs.length + 2 := by have := Hj.out; omega
      subst hjn
      go_wp2_with fail
      go_loopg [4] xs.length (fun g i wr => ∃ j : Nat, j + g = xs.length ∧ i = .int .i64 j ∧ (∀ g, oa = some ⟨g, 0, none⟩ → Room wr g xs.length) ∧ ChgP (fun g => (Value.slice oa xs.length oc).ownBlock = some g) w wr)
      case atStart => exact ⟨0, by omega, rfl, Hro.out, Hc.out⟩
      case round =>
        obtain ⟨j, hj, rfl, hro, hc⟩ := hrel
        have Hj2 := Lib.hid hj
        have Hro2 := Lib.hid hro
        have Hc2 := Lib.hid hc
        clear hj hro hc
        by_cases hlt : j < xs.length
        · have hjl : (j : Int) < (xs.length : Int) := by omega
          obtain ⟨g, rfl, _, _⟩ := Hown.out.pos (by omega)
          have hrg := Lib.hid (Hro2.out g rfl)
          go_wp2_with (refine wpList_store_mid rfl 93 _ _ rfl g ?ooB ?ccB ?hxB ?hyB ?htB ?hiB ?h1B ?hrestB; (case hxB => exact rfl); (case hyB => exact rfl); (case htB => exact hrg.out.atN hlt rfl rfl); (case hiB => kernel_rfl); (case h1B => kernel_rfl))
          go_roundg (gk - 1)
          case measure => have := Hj2.out; omega
          case rel => exact ⟨j + 1, by have := Hj2.out; omega, by go_num, fun g e => (Hro2.out g e).set _ _ _, Hc2.out.sub (chg_setCells _ _ _ _) (fun g hg => by rw [List.mem_singleton.1 hg]; exact Or.inl rfl)⟩
        · have hjn : j = xs.length := by have := Hj2.out; omega
          subst hjn
          go_wp2_with fail
          go_end0
          exact ⟨rfl, Hc2.out⟩
end Go.Proofs.YtaicecnfodhlcaaGreat
/- SameResponse: where both are the same. -/
set_option linter.unusedVariables false
set_option linter.unusedSimpArgs false
namespace Go.Proofs.YtaicecnfodhlcaaGreat
open Go.RowKit Go.Deep

set_option maxRecDepth 100000 in
set_option maxHeartbeats 2000000 in
theorem equalRows_any (a : Option Addr) (ca : Nat) (xs : List Rw) (b : Option Addr) (cb : Nat) (w : World) (hx : Sl 7 rowL w a xs) (hy : Sl 7 rowL w b xs) (hm : xs.length ≤ 9223372036854775807) :
    Calls Tryz.prog 86 #[.slice a xs.length ca, .slice b xs.length cb] w fun e w' => e = .returned (.bool true) ∧ Below w.heap.size w w' := by
  go_enter Tryz.func86, Tryz.ntmps86
  go_wp2_with fail
  go_loopg [5, 13] xs.length (fun g _ i wr => ∃ j : Nat, j + g = xs.length ∧ i = .int .i64 j ∧ Below w.heap.size w wr)
  case atStart => exact ⟨0, by omega, rfl, Below.refl _ _⟩
  case round =>
    obtain ⟨j, hj, rfl, hb⟩ := hrel
    have Hj := Lib.hid hj
    clear hj
    by_cases hlt : j < xs.length
    · obtain ⟨xb, xo, rfl, hxb, x0, x1, x2, x3, x4, x5, x6⟩ := hx.at7 hlt
      obtain ⟨yb, yo, rfl, hyb, y0, y1, y2, y3, y4, y5, y6⟩ := hy.at7 hlt
      have d0 := (hb.cell (p := ⟨xb, _, none⟩) hxb).trans x0
      have d1 := (hb.cell (p := ⟨xb, _, none⟩) hxb).trans x1
      have d2 := (hb.cell (p := ⟨xb, _, none⟩) hxb).trans x2
      have d3 := (hb.cell (p := ⟨xb, _, none⟩) hxb).trans x3
      have d4 := (hb.cell (p := ⟨xb, _, none⟩) hxb).trans x4
      have d5 := (hb.cell (p := ⟨xb, _, none⟩) hxb).trans x5
      have d6 := (hb.cell (p := ⟨xb, _, none⟩) hxb).trans x6
      have f0 := (hb.cell (p := ⟨yb, _, none⟩) hyb).trans y0
      have f1 := (hb.cell (p := ⟨yb, _, none⟩) hyb).trans y1
      have f2 := (hb.cell (p := ⟨yb, _, none⟩) hyb).trans y2
      have f3 := (hb.cell (p := ⟨yb, _, none⟩) hyb).trans y3
      have f4 := (hb.cell (p := ⟨yb, _, none⟩) hyb).trans y4
      have f5 := (hb.cell (p := ⟨yb, _, none⟩) hyb).trans y5
      have f6 := (hb.cell (p := ⟨yb, _, none⟩) hyb).trans y6
      have hne := fun W => run_neq_row xs[j] xs[j] W
      have hjl : (j : Int) < (xs.length : Int) := by omega
      clear x0 y0 x1 y1 x2 y2 x3 y3 x4 y4 x5 y5 x6 y6
      simp only [decide_true, Bool.not_true] at hne
      unfold rowA at hne
      generalize xs[j].cell.v = p0 at *
      generalize xs[j].cell.k = p1 at *
      generalize xs[j].cell.s = p2 at *
      generalize xs[j].agg.c = p3 at *
      generalize xs[j].agg.s = p4 at *
      generalize xs[j].agg.mn = p5 at *
      generalize xs[j].agg.mx = p6 at *
      go_wp2_with fail
      go_quiet (fail)
      go_wp2_with fail
      go_roundg (gk - 1)
      case measure => have := Hj.out; omega
      case rel => exact ⟨j + 1, by have := Hj.out; omega, by go_num, Below.drewN hb _⟩
    · have hjl : ¬ (j : Int) < (xs.length : Int) := by omega
      go_wp2_with fail
      go_ret
      exact ⟨rfl, hb⟩
set_option maxRecDepth 100000 in
set_option maxHeartbeats 4000000 in
theorem sameRsp_any (k i er ep t l o f c n : Int) (a1 : Option Addr) (c1 : Nat) (a2 : Option Addr) (c2 : Nat) (xs : List Rw) (w : World) (hx : Sl 7 rowL w a1 xs) (hy : Sl 7 rowL w a2 xs) (hm : xs.length ≤ 9223372036854775807) :
    Calls Tryz.prog 31 #[.agg #[.int .i64 k, .int .i64 i, .int .i64 er, .int .i64 ep, .slice a1 xs.length c1, .int .i64 t, .int .i64 l, .int .i64 o, .int .i64 f, .int .i64 c, .int .i64 n], .agg #[.int .i64 k, .int .i64 i, .int .i64 er, .int .i64 ep, .slice a2 xs.length c2, .int .i64 t, .int .i64 l, .int .i64 o, .int .i64 f, .int .i64 c, .int .i64 n]] w fun e w' => e = .returned (.bool true) ∧ Below w.heap.size w w' := by
  have hb1 : Below w.heap.size w ((w.alloc (.cells #[.int .i64 k, .int .i64 i, .int .i64 er, .int .i64 ep, .slice a1 xs.length c1, .int .i64 t, .int .i64 l, .int .i64 o, .int .i64 f, .int .i64 c, .int .i64 n] 50)).alloc (.cells #[.int .i64 k, .int .i64 i, .int .i64 er, .int .i64 ep, .slice a2 xs.length c2, .int .i64 t, .int .i64 l, .int .i64 o, .int .i64 f, .int .i64 c, .int .i64 n] 50)) := ((Below.refl _ _).alloc (Nat.le_refl _) _).alloc (by simp) _
  have r1 : ((w.alloc (.cells #[.int .i64 k, .int .i64 i, .int .i64 er, .int .i64 ep, .slice a1 xs.length c1, .int .i64 t, .int .i64 l, .int .i64 o, .int .i64 f, .int .i64 c, .int .i64 n] 50)).alloc (.cells #[.int .i64 k, .int .i64 i, .int .i64 er, .int .i64 ep, .slice a2 xs.length c2, .int .i64 t, .int .i64 l, .int .i64 o, .int .i64 f, .int .i64 c, .int .i64 n] 50)).heap[w.heap.size]? = some (.cells #[.int .i64 k, .int .i64 i, .int .i64 er, .int .i64 ep, .slice a1 xs.length c1, .int .i64 t, .int .i64 l, .int .i64 o, .int .i64 f, .int .i64 c, .int .i64 n] 50 (0, 0)) := (blk_old (by simp)).trans (blk_at rfl)
  have r2 : ((w.alloc (.cells #[.int .i64 k, .int .i64 i, .int .i64 er, .int .i64 ep, .slice a1 xs.length c1, .int .i64 t, .int .i64 l, .int .i64 o, .int .i64 f, .int .i64 c, .int .i64 n] 50)).alloc (.cells #[.int .i64 k, .int .i64 i, .int .i64 er, .int .i64 ep, .slice a2 xs.length c2, .int .i64 t, .int .i64 l, .int .i64 o, .int .i64 f, .int .i64 c, .int .i64 n] 50)).heap[w.heap.size + 1]? = some (.cells #[.int .i64 k, .int .i64 i, .int .i64 er, .int .i64 ep, .slice a2 xs.length c2, .int .i64 t, .int .i64 l, .int .i64 o, .int .i64 f, .int .i64 c, .int .i64 n] 50 (0, 0)) := blk_at (by simp)
  have heq := equalRows_any a1 c1 xs a2 c2 _ (hx.below hb1) (hy.below hb1) hm
  have hst := fun W => run_eql_stats t l o f c n t l o f c n W
  simp only [decide_true] at hst
  have Hb1 := Lib.hid hb1
  have R1 := Lib.hid r1
  have R2 := Lib.hid r2
  clear hb1 r1 r2 hx hy hm
  go_enter Tryz.func31, Tryz.ntmps31
  go_wp2_with fail
  refine heq.mono ?_
  rintro e w1 ⟨rfl, hb⟩
  have r1 := (hb.block _ (lt_of_block R1.out)).trans R1.out
  have r2 := (hb.block _ (lt_of_block R2.out)).trans R2.out
  have p5 := cell_blk r1 5
  have q5 := cell_blk r2 5
  have p6 := cell_blk r1 6
  have q6 := cell_blk r2 6
  have p7 := cell_blk r1 7
  have q7 := cell_blk r2 7
  have p8 := cell_blk r1 8
  have q8 := cell_blk r2 8
  have p9 := cell_blk r1 9
  have q9 := cell_blk r2 9
  have p10 := cell_blk r1 10
  have q10 := cell_blk r2 10
  simp at p5 q5 p6 q6 p7 q7 p8 q8 p9 q9 p10 q10
  have Hb := Lib.hid (Hb1.out.trans (hb.mono Hb1.out.size))
  clear hb heq r1 r2
  go_wp2_with fail
  go_ret
  exact ⟨rfl, Hb.out⟩
end Go.Proofs.YtaicecnfodhlcaaGreat
/- Two models that are the law's own; rows and blocks that the law holds beside them. -/
set_option linter.unusedVariables false
set_option linter.unusedSimpArgs false
namespace Go.Proofs.YtaicecnfodhlcaaGreat
open Go.RowKit Go.Deep

theorem Mine.act2 {w0 w : World} {mp : Nat} {B : MB} {T : Mst} {n : Nat} (h : Mine w0 w mp B T n) (hn : n ≤ 99999) (x : Opx) (hx : OpOk w x) (hs : x.q.cells.length ≤ 100) :
    Calls Tryz.prog 14 #[.pointer (some ⟨mp, 0, none⟩), opV x] w fun e w' => e = .returned (.tuple #[]) ∧ ∃ B', Mine w0 w' mp B' (T.act x) (n + 1) ∧ Turn w w' B B' := by
  have hc := act_any h.md h.few (by omega) x hx hs
  rw [h.mp] at hc
  refine hc.mono ?_
  rintro e w' ⟨rfl, B', hM, hT⟩
  exact ⟨rfl, B', h.turn hM hT (h.few.act h.md.inv x), hT⟩
theorem Mine.at {w0 w : World} {mp : Nat} {B : MB} {T : Mst} {n : Nat} (h : Mine w0 w mp B T n) (hn : n ≤ 100000) (x : Int) :
    Calls Tryz.prog 23 #[.pointer (some ⟨mp, 0, none⟩), .int .i64 x] w fun e w' => ∃ v, e = .returned (.tuple #[v, .bool (T.seals x).isSome]) ∧ Own 93 7 rowL w.heap.size w' v ((T.seals x).getD []) ∧ Below w.heap.size w w' := by
  have hc := mAt_any h.md x (h.maxE hn x)
  rw [h.mp] at hc
  exact hc
theorem Mine.leave {w0 w : World} {mp : Nat} {B : MB} {T : Mst} {n : Nat} (h : Mine w0 w mp B T n) (hn : n ≤ 99999) (s : Int) :
    Calls Tryz.prog 24 #[.pointer (some ⟨mp, 0, none⟩), .int .i64 s] w fun e w' => e = .returned (.int .i64 (T.heldN s)) ∧ Mine w0 w' mp B (T.leave s) n ∧ Turn w w' B B := by
  have hc := leave_full h.md s (by have := h.few.now; omega)
  rw [h.mp] at hc
  refine hc.mono ?_
  rintro e w' ⟨rfl, hM, hT⟩
  exact ⟨rfl, h.turn hM hT (h.few.leave s), hT⟩
/-- A scan at an epoch changes nothing. -/
theorem Mst.scan_same (S : Mst) (s : Int) (q : Rq) (r : Int) (hk : q.k = 3) (hep : q.ep ≠ 0) : (S.ask s q r).1 = S := by
  unfold Mst.ask
  split; · rfl
  split; · rfl
  split; · rfl
  split; · rfl
  rw [answered_fst]
  unfold Mst.inner
  rw [if_neg (by omega), if_neg (by omega), if_neg (by omega), if_neg (by omega)]
  unfold Mst.read
  split
  · rfl
  · rw [if_pos hk, if_neg hep]
theorem Mst.scan_rows (S : Mst) (s : Int) (q : Rq) (r : Int) (hk : q.k = 3) : (S.ask s q r).2.2.rows.length ≤ q.lim.toNat := by
  unfold Mst.ask
  split; · exact Nat.zero_le _
  split; · exact Nat.zero_le _
  split; · exact Nat.zero_le _
  split; · exact Nat.zero_le _
  unfold answered
  split
  · unfold Mst.inner
    rw [if_neg (by omega), if_neg (by omega), if_neg (by omega), if_neg (by omega)]
    unfold Mst.read
    split
    · exact Nat.zero_le _
    · rw [if_pos hk]
      split
      · split
        · exact Nat.zero_le _
        · exact List.length_take_le _ _
      · exact List.length_take_le _ _
  · exact Nat.zero_le _
theorem Mine.scan {w0 w : World} {mp : Nat} {B : MB} {T : Mst} {n : Nat} (h : Mine w0 w mp B T n) (hn : n ≤ 99999) (s : Int) (q : Rq) (qa : Option Addr) (qc : Nat) (r : Int) (hq : Sl 3 cellL w qa q.cells) (hl : q.cells.length ≤ 100000000) (hk : q.k = 3) (hep : q.ep ≠ 0) :
    Calls Tryz.prog 18 #[.pointer (some ⟨mp, 0, none⟩), .int .i64 s, .agg (q.at qa qc), .int .i64 r] w fun e w' => ∃ v B', e = .returned (.tuple #[.agg ((T.ask s q r).2.2.at v), .int .i64 (T.ask s q r).2.1]) ∧ Own 93 7 rowL w.heap.size w' v (T.ask s q r).2.2.rows ∧ Mine w0 w' mp B' T n ∧ Turn w w' B B' ∧ ∀ g, v.ownBlock = some g → B'.lab g = .no := by
  have hc := ask_any h.md s q qa qc r hq hl (h.max (by omega)) (h.maxE (by omega) _)
  rw [h.mp] at hc
  refine hc.mono ?_
  rintro e w' ⟨v, B', rfl, ho, hM, hT, hv⟩
  rw [T.scan_same s q r hk hep] at hM
  exact ⟨v, B', rfl, ho, h.turn hM hT h.few, hT, hv⟩

/-- Two models apart. -/
structure Two (W1 w : World) (mp : Nat) (B : MB) (T : Mst) (n : Nat) (mp2 : Nat) (B2 : MB) (T2 : Mst) : Prop where
  m : Mine W1 w mp B T n
  o : Mine W1 w mp2 B2 T2 0
  dis : ∀ g, B2.lab g ≠ .no → B.lab g = .no
theorem Two.turn {W1 w w' : World} {mp : Nat} {B B' : MB} {T T' : Mst} {n n' : Nat} {mp2 : Nat} {B2 : MB} {T2 : Mst} (h : Two W1 w mp B T n mp2 B2 T2) (hM : Mine W1 w' mp B' T' n') (hT : Turn w w' B B') : Two W1 w' mp B' T' n' mp2 B2 T2 :=
  ⟨hM, ⟨h.o.md.keep hT.chg.size fun g hg => (hT.away (h.dis g hg) (h.o.md.lt g hg)).2, h.o.mp, h.o.few, h.o.low, hM.below⟩, fun g hg => (hT.away (h.dis g hg) (h.o.md.lt g hg)).1⟩
theorem Two.keep {W1 w w' : World} {mp : Nat} {B : MB} {T : Mst} {n : Nat} {mp2 : Nat} {B2 : MB} {T2 : Mst} (h : Two W1 w mp B T n mp2 B2 T2) (hb : Below w.heap.size w w') : Two W1 w' mp B T n mp2 B2 T2 :=
  ⟨h.m.keep hb, h.o.keep hb, h.dis⟩
theorem Mine.chgP {w0 w w' : World} {mp : Nat} {B : MB} {T : Mst} {n : Nat} (h : Mine w0 w mp B T n) {p : Nat → Prop} (hc : ChgP p w w') (hl : ∀ g, p g → B.lab g = .no ∧ w0.heap.size ≤ g) : Mine w0 w' mp B T n :=
  ⟨h.md.keep hc.size fun g hg => hc.block g (h.md.lt g hg) (fun hm => hg (hl g hm).1), h.mp, h.few, h.low, h.below.trans ⟨hc.os, hc.tape, hc.output, hc.size, fun g hg => hc.block g (Nat.lt_of_lt_of_le hg h.below.size) (fun hm => by have := (hl g hm).2; omega)⟩⟩
/-- Rows that the law holds. -/
structure Kept (w : World) (B B2 : MB) (lo : Nat) (v : Value) (xs : List Rw) : Prop where
  own : Own 93 7 rowL lo w v xs
  no : ∀ g, v.ownBlock = some g → B.lab g = .no ∧ B2.lab g = .no
theorem Kept.turn {w w' : World} {B B' B2 : MB} {lo : Nat} {v : Value} {xs : List Rw} (h : Kept w B B2 lo v xs) (hT : Turn w w' B B') : Kept w' B' B2 lo v xs :=
  ⟨h.own.turn hT fun g hg => (h.no g hg).1, fun g hg => ⟨(hT.away (h.no g hg).1 (h.own.ge hg).2).1, (h.no g hg).2⟩⟩
theorem Kept.below {w w' : World} {B B2 : MB} {lo : Nat} {v : Value} {xs : List Rw} (h : Kept w B B2 lo v xs) (hb : Below w.heap.size w w') : Kept w' B B2 lo v xs := ⟨h.own.below hb, h.no⟩
theorem Kept.chg {w w' : World} {B B2 : MB} {lo : Nat} {v : Value} {xs : List Rw} (h : Kept w B B2 lo v xs) {p : Nat → Prop} (hc : ChgP p w w') (hp : ∀ g, v.ownBlock = some g → ¬ p g) : Kept w' B B2 lo v xs :=
  ⟨h.own.keep fun g hg hlt => hc.block g hlt (hp g hg), h.no⟩
/-- A block that the law holds. -/
structure Blk (w : World) (B : MB) (g : Nat) (o : Obj) : Prop where
  at_ : w.heap[g]? = some o
  no : B.lab g = .no
theorem Blk.turn {w w' : World} {B B' : MB} {g : Nat} {o : Obj} (h : Blk w B g o) (hT : Turn w w' B B') : Blk w' B' g o :=
  ⟨(hT.away h.no (lt_of_block h.at_)).2.trans h.at_, (hT.away h.no (lt_of_block h.at_)).1⟩
theorem Blk.below {w w' : World} {B : MB} {g : Nat} {o : Obj} (h : Blk w B g o) (hb : Below w.heap.size w w') : Blk w' B g o := ⟨(hb.block _ (lt_of_block h.at_)).trans h.at_, h.no⟩
theorem Blk.chg {w w' : World} {B : MB} {g : Nat} {o : Obj} (h : Blk w B g o) {p : Nat → Prop} (hc : ChgP p w w') (hp : ¬ p g) : Blk w' B g o := ⟨(hc.block _ (lt_of_block h.at_) hp).trans h.at_, h.no⟩

section
variable {W1 w : World} {mp : Nat} {B : MB} {T : Mst} {n : Nat} {mp2 : Nat} {B2 : MB} {T2 : Mst}
theorem Two.map (h : Two W1 w mp B T n mp2 B2 T2) (hn : n ≤ 100000) :
    Calls Tryz.prog 15 #[.pointer (some ⟨mp, 0, none⟩)] w fun e w' => ∃ a c, e = .returned (.slice a T.L.length c) ∧ Two W1 w' mp B T n mp2 B2 T2 ∧ Kept w' B B2 w.heap.size (.slice a T.L.length c) T.L ∧ Below w.heap.size w w' := by
  refine (h.m.map hn).mono ?_
  rintro e w' ⟨v, rfl, ho, hb⟩
  obtain ⟨a, c, rfl, _⟩ := ho.sl fun _ => rfl
  exact ⟨a, c, rfl, h.keep hb, ⟨ho, fun g hg => ⟨h.m.away (ho.ge hg).1, h.o.away (ho.ge hg).1⟩⟩, hb⟩
theorem Two.at (h : Two W1 w mp B T n mp2 B2 T2) (hn : n ≤ 100000) (x : Int) :
    Calls Tryz.prog 23 #[.pointer (some ⟨mp, 0, none⟩), .int .i64 x] w fun e w' => ∃ a c, e = .returned (.tuple #[.slice a ((T.seals x).getD []).length c, .bool (T.seals x).isSome]) ∧ Two W1 w' mp B T n mp2 B2 T2 ∧ Kept w' B B2 w.heap.size (.slice a ((T.seals x).getD []).length c) ((T.seals x).getD []) ∧ Below w.heap.size w w' := by
  refine (h.m.at hn x).mono ?_
  rintro e w' ⟨v, rfl, ho, hb⟩
  obtain ⟨a, c, rfl, _⟩ := ho.sl fun _ => rfl
  exact ⟨a, c, rfl, h.keep hb, ⟨ho, fun g hg => ⟨h.m.away (ho.ge hg).1, h.o.away (ho.ge hg).1⟩⟩, hb⟩
theorem Two.scan (h : Two W1 w mp B T n mp2 B2 T2) (hn : n ≤ 99999) (s : Int) (q : Rq) (qa : Option Addr) (qc : Nat) (r : Int) (hq : Sl 3 cellL w qa q.cells) (hl : q.cells.length ≤ 100000000) (hk : q.k = 3) (hep : q.ep ≠ 0) :
    Calls Tryz.prog 18 #[.pointer (some ⟨mp, 0, none⟩), .int .i64 s, .agg (q.at qa qc), .int .i64 r] w fun e w' => ∃ a c B', e = .returned (.tuple #[.agg ((T.ask s q r).2.2.at (.slice a (T.ask s q r).2.2.rows.length c)), .int .i64 (T.ask s q r).2.1]) ∧ Two W1 w' mp B' T n mp2 B2 T2 ∧ Kept w' B' B2 w.heap.size (.slice a (T.ask s q r).2.2.rows.length c) (T.ask s q r).2.2.rows ∧ Turn w w' B B' := by
  refine (h.m.scan hn s q qa qc r hq hl hk hep).mono ?_
  rintro e w' ⟨v, B', rfl, ho, hM, hT, hv⟩
  obtain ⟨a, c, rfl, _⟩ := ho.sl fun _ => rfl
  exact ⟨a, c, B', rfl, h.turn hM hT, ⟨ho, fun g hg => ⟨hv g hg, h.o.away (ho.ge hg).1⟩⟩, hT⟩
theorem Two.over (h : Two W1 w mp B T n mp2 B2 T2) {v : Value} {xs : List Rw} {lo : Nat} (k : Kept w B B2 lo v xs) (hlo : W1.heap.size ≤ lo) (hl : xs.length ≤ 100000000) :
    Calls Tryz.prog 30 #[v] w fun e w' => e = .returned (.tuple #[]) ∧ Two W1 w' mp B T n mp2 B2 T2 ∧ ChgP (fun g => v.ownBlock = some g) w w' := by
  refine (over_any v xs lo w k.own hl).mono ?_
  rintro e w' ⟨rfl, hc⟩
  exact ⟨rfl, ⟨h.m.chgP hc fun g hg => ⟨(k.no g hg).1, Nat.le_trans hlo (k.own.ge hg).1⟩, h.o.chgP hc fun g hg => ⟨(k.no g hg).2, Nat.le_trans hlo (k.own.ge hg).1⟩, h.dis⟩, hc⟩
end
/-- The same scan, again and again: the same answer. -/
theorem scan_all (W1 : World) (mp : Nat) (T : Mst) (n mp2 : Nat) (B2 : MB) (T2 : Mst) (hn : n ≤ 99999) (s : Int) (q : Rq) (hc : q.cells = []) (hk : q.k = 3) (hep : q.ep ≠ 0) :
    ∃ (k i er ep t l o f c n' e1 : Int) (rows : List Rw), rows.length ≤ q.lim.toNat ∧ ∀ (W' : World) (B' : MB), Two W1 W' mp B' T n mp2 B2 T2 →
      Calls Tryz.prog 18 #[.pointer (some ⟨mp, 0, none⟩), .int .i64 s, .agg (q.at none 0), .int .i64 0] W' fun e w' => ∃ a ca B'', e = .returned (.tuple #[.agg (respL k i er ep (.slice a rows.length ca) t l o f c n'), .int .i64 e1]) ∧ Two W1 w' mp B'' T n mp2 B2 T2 ∧ Kept w' B'' B2 W'.heap.size (.slice a rows.length ca) rows ∧ Turn W' w' B' B'' := by
  refine ⟨(T.ask s q 0).2.2.k, (T.ask s q 0).2.2.i, (T.ask s q 0).2.2.er, (T.ask s q 0).2.2.ep, (T.ask s q 0).2.2.t, (T.ask s q 0).2.2.l, (T.ask s q 0).2.2.o, (T.ask s q 0).2.2.f, (T.ask s q 0).2.2.c, (T.ask s q 0).2.2.n, (T.ask s q 0).2.1, (T.ask s q 0).2.2.rows, T.scan_rows s q 0 hk, fun W' B' h => ?_⟩
  exact h.scan hn s q none 0 0 (by rw [hc]; exact Sl.nil _ _ _ _) (by rw [hc]; exact Nat.zero_le _) hk hep
end Go.Proofs.YtaicecnfodhlcaaGreat
/- ModelSwaps: the plain law: operations at unlike operators change places. -/
set_option linter.unusedVariables false
set_option linter.unusedSimpArgs false
namespace Go.Proofs.YtaicecnfodhlcaaGreat
open Go.RowKit Go.Deep

/-- What an event, a mark, a kill is answered: the state behind it, the fate, the error. -/
def Mst.tell (S : Mst) (x : Opx) : Mst × Int × Int :=
  if x.k = 1 then S.event x.im x.ik x.it x.iv x.full
  else if x.k = 2 then ((S.mark x.o x.s x.t).1, 0, (S.mark x.o x.s x.t).2)
  else ((S.kill x.c).1, 0, (S.kill x.c).2)
/-- Its operator. -/
def opAt (n : Int) (x : Opx) : Int := if x.k = 1 then oprK x.ik n else if x.k = 2 then x.o else oprK x.c.k n

theorem rise_extC {xs ys : List Cell} (hx : Rise xs) (hy : Rise ys) (h : ∀ r, r ∈ xs ↔ r ∈ ys) : xs = ys :=
  Rise.perm_eq hx hy ((List.perm_ext_iff_of_nodup hx.nodup hy.nodup).2 h)
theorem Rise.sub {xs ys : List Cell} (hr : Rise xs) (h : ys.Sublist xs) : Rise ys := List.Pairwise.sublist h hr
theorem rise_ext {xs ys : List Rw} (hx : Rise (xs.map (·.cell))) (hy : Rise (ys.map (·.cell))) (h : ∀ r, r ∈ xs ↔ r ∈ ys) : xs = ys := by
  have nx := hx.nodup
  have ny := hy.nodup
  unfold List.Nodup at nx ny
  rw [List.pairwise_map] at nx ny
  have nx' : xs.Nodup := nx.imp fun h e => h (by rw [e])
  have ny' : ys.Nodup := ny.imp fun h e => h (by rw [e])
  have hp : xs.Perm ys := (List.perm_ext_iff_of_nodup nx' ny').2 h
  unfold Rise at hx hy
  rw [List.pairwise_map] at hx hy
  exact List.Perm.eq_of_pairwise (le := fun x y : Rw => ccmp x.cell y.cell < 0) (fun a b _ _ h1 h2 => by have := tot_cell.anti a.cell b.cell; omega) hx hy hp
theorem any_same {α : Type} {p q : α → Bool} : ∀ {l : List α}, (∀ x ∈ l, p x = q x) → l.any p = l.any q
  | [], _ => rfl
  | a :: l, h => by
    rw [List.any_cons, List.any_cons, h a List.mem_cons_self, any_same fun x hx => h x (List.mem_cons_of_mem _ hx)]

/-- Of operator a both hold the same. -/
structure SameA (n a : Int) (T T' : Mst) : Prop where
  cfg : T'.cfg = T.cfg
  op : T.cfg.op = n
  ms : 0 ≤ a → T'.ms.getD a.toNat [] = T.ms.getD a.toNat []
  mem : ∀ r : Rw, oprK r.cell.k n = a → (r ∈ T'.L ↔ r ∈ T.L)
theorem SameA.refl (a : Int) (T : Mst) : SameA T.cfg.op a T T := ⟨rfl, rfl, fun _ => rfl, fun _ _ => Iff.rfl⟩
section
variable {n a : Int} {T T' : Mst}
theorem SameA.has (h : SameA n a T T') {c : Cell} (hc : oprK c.k n = a) : c ∈ T'.L.map (·.cell) ↔ c ∈ T.L.map (·.cell) := by
  constructor
  · intro hm
    obtain ⟨r, hr, rfl⟩ := List.mem_map.1 hm
    exact List.mem_map.2 ⟨r, (h.mem r hc).1 hr, rfl⟩
  · intro hm
    obtain ⟨r, hr, rfl⟩ := List.mem_map.1 hm
    exact List.mem_map.2 ⟨r, (h.mem r hc).2 hr, rfl⟩
theorem SameA.hasC (h : SameA n a T T') {c : Cell} (hc : oprK c.k n = a) : hasC T'.L c = hasC T.L c := by
  rw [Bool.eq_iff_iff, hasC_iff, hasC_iff]
  exact h.has hc
theorem SameA.getA (h : SameA n a T T') (hi : T.Inv) (hi' : T'.Inv) {c : Cell} (hc : oprK c.k n = a) : getA T'.L c = getA T.L c := by
  by_cases hm : c ∈ T.L.map (·.cell)
  · obtain ⟨r, hr, rfl⟩ := List.mem_map.1 hm
    rw [getA_mem hi.rise.nodup hr, getA_mem hi'.rise.nodup ((h.mem r hc).2 hr)]
  · rw [getA_no hm, getA_no (fun hm' => hm ((h.has hc).1 hm'))]
theorem SameA.dueP (h : SameA n a T T') (ha : 0 ≤ a) : T'.dueP a = T.dueP a := by
  funext c
  unfold Mst.dueP
  rw [h.cfg, h.ms ha]
theorem SameA.due (h : SameA n a T T') (hi : T.Inv) (hi' : T'.Inv) (ha : 0 ≤ a) : T'.dueOf a = T.dueOf a := by
  have hd : ∀ c, T.dueP a c = true → oprK c.k n = a := fun c hc => by
    unfold Mst.dueP at hc
    rw [Bool.and_eq_true, beq_iff_eq, h.op] at hc
    exact hc.1
  unfold Mst.dueOf
  rw [h.dueP ha]
  rw [rise_extC (xs := (T'.L.map (·.cell)).filter (T.dueP a)) (ys := (T.L.map (·.cell)).filter (T.dueP a)) (hi'.rise.sub List.filter_sublist) (hi.rise.sub List.filter_sublist) fun c => by
    rw [List.mem_filter, List.mem_filter]
    exact ⟨fun ⟨h1, h2⟩ => ⟨(h.has (hd c h2)).1 h1, h2⟩, fun ⟨h1, h2⟩ => ⟨(h.has (hd c h2)).2 h1, h2⟩⟩]
theorem SameA.least (h : SameA n a T T') {k : ByteArray} (hk : oprK k n = a) (ha : 0 ≤ a) : T'.least k = T.least k := by
  unfold Mst.least
  rw [h.cfg, h.op, hk, h.ms ha]
theorem SameA.openL (h : SameA n a T T') {k : ByteArray} (hk : oprK k n = a) (ha : 0 ≤ a) (t : Int) : T'.openL k t = T.openL k t := by
  unfold Mst.openL
  rw [h.cfg, h.least hk ha]
theorem openL_key {T : Mst} {k : ByteArray} {t : Int} {c : Cell} (hc : c ∈ T.openL k t) : c.k = k := by
  unfold Mst.openL at hc
  obtain ⟨d, _, rfl⟩ := List.mem_map.1 hc
  rfl
theorem SameA.puts (h : SameA n a T T') (hi : T.Inv) (hi' : T'.Inv) {k : ByteArray} (hk : oprK k n = a) (ha : 0 ≤ a) (t v : Int) : T'.puts k t v = T.puts k t v := by
  unfold Mst.puts
  rw [h.openL hk ha]
  apply List.map_congr_left
  intro c hc
  show (⟨c, putZ (Go.Proofs.YtaicecnfodhlcaaGreat.getA T'.L c) v⟩ : Rw) = ⟨c, putZ (Go.Proofs.YtaicecnfodhlcaaGreat.getA T.L c) v⟩
  rw [h.getA hi hi' (c := c) (by rw [openL_key hc]; exact hk)]
theorem SameA.over (h : SameA n a T T') (hi : T.Inv) (hi' : T'.Inv) {k : ByteArray} (hk : oprK k n = a) (ha : 0 ≤ a) (t v : Int) : T'.over k t v = T.over k t v := by
  unfold Mst.over
  rw [h.openL hk ha]
  refine any_same fun c hc => ?_
  rw [h.getA hi hi' (c := c) (by rw [openL_key hc]; exact hk)]
theorem SameA.late (h : SameA n a T T') {k : ByteArray} (hk : oprK k n = a) (ha : 0 ≤ a) (t : Int) : T'.late k t = T.late k t := by
  unfold Mst.late
  rw [h.cfg, h.least hk ha]
theorem SameA.event (h : SameA n a T T') (hi : T.Inv) (hi' : T'.Inv) {k : ByteArray} (hk : oprK k n = a) (mk full : Bool) (t v : Int) :
    (T'.event mk k t v full).2 = (T.event mk k t v full).2 ∧ SameA n a (T.event mk k t v full).1 (T'.event mk k t v full).1 := by
  have ha : 0 ≤ a := by
    rw [← hk, ← h.op]
    exact (oprK_bd k hi.cfg.op.1 hi.cfg.op.2).1
  have e1 : T'.dueOf (oprK k T'.cfg.op) = T.dueOf (oprK k T.cfg.op) := by rw [h.cfg, h.op, hk, h.due hi hi' ha]
  unfold Mst.event
  rw [e1, h.late hk ha t, h.over hi hi' hk ha t v, h.openL hk ha t]
  by_cases c1 : mk = true
  · simp only [if_pos c1]; exact ⟨trivial, h⟩
  simp only [if_neg c1]
  by_cases c2 : k.size < 1 ∨ 32 < k.size
  · simp only [if_pos c2]; exact ⟨trivial, h⟩
  simp only [if_neg c2]
  by_cases c3 : t < -1152921504606846976 ∨ 1152921504606846976 < t
  · simp only [if_pos c3]; exact ⟨trivial, h⟩
  simp only [if_neg c3]
  by_cases c4 : (T.dueOf (oprK k T.cfg.op)).isSome = true
  · simp only [if_pos c4]; exact ⟨trivial, h⟩
  simp only [if_neg c4]
  by_cases c5 : (full && (T.late k t || T.over k t v || (T.openL k t).isEmpty)) = true
  · simp only [if_pos c5]; exact ⟨trivial, h⟩
  simp only [if_neg c5]
  by_cases c6 : T.late k t = true
  · simp only [if_pos c6]; exact ⟨trivial, h.cfg, h.op, h.ms, h.mem⟩
  simp only [if_neg c6]
  by_cases c7 : T.over k t v = true
  · simp only [if_pos c7]; exact ⟨trivial, h.cfg, h.op, h.ms, h.mem⟩
  simp only [if_neg c7]
  by_cases c8 : full = true
  · simp only [if_pos c8]; exact ⟨trivial, h.cfg, h.op, h.ms, h.mem⟩
  simp only [if_neg c8]
  refine ⟨trivial, h.cfg, h.op, h.ms, fun r hr => ?_⟩
  show r ∈ putRows T'.L (T'.puts k t v) ↔ r ∈ putRows T.L (T.puts k t v)
  rw [h.puts hi hi' hk ha, mem_putRows, mem_putRows, h.mem r hr]
theorem frame_event {b : Int} (T : Mst) (hn : T.cfg.op = n) {k : ByteArray} (hk : oprK k n ≠ b) (mk full : Bool) (t v : Int) : SameA n b T (T.event mk k t v full).1 := by
  have h : SameA n b T T := ⟨rfl, hn, fun _ => rfl, fun _ _ => Iff.rfl⟩
  unfold Mst.event
  split; · exact h
  split; · exact h
  split; · exact h
  split; · exact h
  split; · exact h
  split; · exact ⟨h.cfg, h.op, h.ms, h.mem⟩
  split; · exact ⟨h.cfg, h.op, h.ms, h.mem⟩
  split; · exact ⟨h.cfg, h.op, h.ms, h.mem⟩
  refine ⟨h.cfg, h.op, h.ms, fun r hr => ?_⟩
  show r ∈ putRows T.L (T.puts k t v) ↔ r ∈ T.L
  have hno : r.cell ∉ (T.puts k t v).map (·.cell) := fun hc => by
    rw [Mst.puts_cells] at hc
    exact hk (by rw [← openL_key hc]; exact hr)
  rw [mem_putRows]
  exact ⟨fun h => h.elim (fun h => absurd (List.mem_map.2 ⟨r, h, rfl⟩) hno) (·.1), fun h => .inr ⟨h, hno⟩⟩
theorem SameA.mark (h : SameA n a T T') (hi : T.Inv) (hi' : T'.Inv) (s t : Int) : (T'.mark a s t).2 = (T.mark a s t).2 ∧ SameA n a (T.mark a s t).1 (T'.mark a s t).1 := by
  unfold Mst.mark
  rw [h.cfg]
  by_cases c1 : a < 0 ∨ T.cfg.op ≤ a ∨ s < 0 ∨ T.cfg.so ≤ s
  · simp only [if_pos c1]; exact ⟨trivial, h⟩
  simp only [if_neg c1]
  have ha : 0 ≤ a := by omega
  rw [h.due hi hi' ha]
  by_cases c2 : t < -1152921504606846976 ∨ 1152921504606846976 < t
  · simp only [if_pos c2]; exact ⟨trivial, h⟩
  simp only [if_neg c2]
  by_cases c3 : (T.dueOf a).isSome = true
  · simp only [if_pos c3]; exact ⟨trivial, h⟩
  simp only [if_neg c3]
  have hl : a.toNat < T.ms.length := by have := hi.msl; omega
  have hl' : a.toNat < T'.ms.length := by have := hi'.msl; rw [h.cfg] at this; omega
  refine ⟨trivial, h.cfg, h.op, fun _ => ?_, h.mem⟩
  show (T'.ms.set a.toNat (riseL (T'.ms.getD a.toNat []) (s, t))).getD a.toNat [] = (T.ms.set a.toNat (riseL (T.ms.getD a.toNat []) (s, t))).getD a.toNat []
  rw [h.ms ha]
  simp [hl, hl']
theorem frame_mark {b : Int} (T : Mst) (hn : T.cfg.op = n) (hb : a ≠ b) (s t : Int) : SameA n b T (T.mark a s t).1 := by
  have h : SameA n b T T := ⟨rfl, hn, fun _ => rfl, fun _ _ => Iff.rfl⟩
  unfold Mst.mark
  split; · exact h
  split; · exact h
  split; · exact h
  rename_i c1 _ _
  refine ⟨h.cfg, h.op, fun hb0 => ?_, h.mem⟩
  have hne : a.toNat ≠ b.toNat := by omega
  show (T.ms.set a.toNat _).getD b.toNat [] = T.ms.getD b.toNat []
  simp [List.getD, List.getElem?_set, hne]
theorem SameA.kill (h : SameA n a T T') (hi : T.Inv) (hi' : T'.Inv) {c : Cell} (hc : oprK c.k n = a) : (T'.kill c).2 = (T.kill c).2 ∧ SameA n a (T.kill c).1 (T'.kill c).1 := by
  have ha : 0 ≤ a := by
    rw [← hc, ← h.op]
    exact (oprK_bd c.k hi.cfg.op.1 hi.cfg.op.2).1
  unfold Mst.kill
  rw [h.cfg, h.op, hc, h.hasC hc, h.dueP ha, h.due hi hi' ha]
  by_cases c1 : Go.Proofs.YtaicecnfodhlcaaGreat.hasC T.L c = true
  · simp only [if_pos c1]
    by_cases c2 : T.dueP a c = true
    · simp only [if_pos c2]
      by_cases c3 : T.dueOf a = some c
      · simp only [if_pos c3]
        refine ⟨trivial, by first | rfl | exact h.cfg, h.op, h.ms, fun r hr => ?_⟩
        show r ∈ T'.L.filter _ ↔ r ∈ T.L.filter _
        rw [List.mem_filter, List.mem_filter, h.mem r hr]
      · simp only [if_neg c3]; exact ⟨trivial, h⟩
    · simp only [if_neg c2]; exact ⟨trivial, h⟩
  · simp only [if_neg c1]; exact ⟨trivial, h⟩
theorem frame_kill {b : Int} (T : Mst) (hn : T.cfg.op = n) {c : Cell} (hc : oprK c.k n ≠ b) : SameA n b T (T.kill c).1 := by
  have h : SameA n b T T := ⟨rfl, hn, fun _ => rfl, fun _ _ => Iff.rfl⟩
  unfold Mst.kill
  split
  · split
    · split
      · refine ⟨h.cfg, h.op, h.ms, fun r hr => ?_⟩
        show r ∈ T.L.filter _ ↔ r ∈ T.L
        rw [List.mem_filter]
        exact ⟨(·.1), fun h => ⟨h, decide_eq_true fun e => hc (by rw [← e]; exact hr)⟩⟩
      · exact h
    · exact h
  · exact h
theorem SameA.tell {x : Opx} (h : SameA n (opAt n x) T T') (hi : T.Inv) (hi' : T'.Inv) : (T'.tell x).2 = (T.tell x).2 ∧ SameA n (opAt n x) (T.tell x).1 (T'.tell x).1 := by
  unfold Mst.tell
  by_cases c1 : x.k = 1
  · simp only [if_pos c1]
    exact h.event hi hi' (by unfold opAt; rw [if_pos c1]) _ _ _ _
  simp only [if_neg c1]
  by_cases c2 : x.k = 2
  · simp only [if_pos c2]
    have e : opAt n x = x.o := by unfold opAt; rw [if_neg c1, if_pos c2]
    rw [e] at h ⊢
    have := h.mark hi hi' x.s x.t
    exact ⟨by rw [this.1], this.2⟩
  · simp only [if_neg c2]
    have := h.kill hi hi' (c := x.c) (by unfold opAt; rw [if_neg c1, if_neg c2])
    exact ⟨by rw [this.1], this.2⟩
theorem frame_tell {b : Int} (T : Mst) (hn : T.cfg.op = n) {x : Opx} (hb : opAt n x ≠ b) : SameA n b T (T.tell x).1 := by
  unfold opAt at hb
  unfold Mst.tell
  by_cases c1 : x.k = 1
  · simp only [if_pos c1] at hb ⊢
    exact frame_event T hn hb _ _ _ _
  simp only [if_neg c1] at hb ⊢
  by_cases c2 : x.k = 2
  · simp only [if_pos c2] at hb ⊢
    exact frame_mark T hn hb _ _
  · simp only [if_neg c2] at hb ⊢
    exact frame_kill T hn hb
end
def Cnt.bump (c : Cnt) (f : Int) : Cnt := if f = 1 then { c with t := c.t + 1 } else if f = 2 then { c with l := c.l + 1 } else if f = 3 then { c with o := c.o + 1 } else if f = 4 then { c with f := c.f + 1 } else c
theorem Cnt.bump_comm (c : Cnt) (f g : Int) : (c.bump f).bump g = (c.bump g).bump f := by
  unfold Cnt.bump
  repeat' split
  all_goals first | rfl | omega
theorem tell_cnt (T : Mst) (x : Opx) : (T.tell x).1.cnt = T.cnt.bump (T.tell x).2.1 ∧ (T.tell x).1.now = T.now := by
  unfold Mst.tell
  split
  · unfold Mst.event
    repeat' split
    all_goals exact ⟨rfl, rfl⟩
  split
  · unfold Mst.mark
    repeat' split
    all_goals exact ⟨rfl, rfl⟩
  · unfold Mst.kill
    repeat' split
    all_goals exact ⟨rfl, rfl⟩
/-- P1910. -/
theorem swap_law {T : Mst} {x y : Opx} (hi : T.Inv) (hx : (T.tell x).1.Inv) (hy : (T.tell y).1.Inv) (hxy : ((T.tell x).1.tell y).1.Inv) (hyx : ((T.tell y).1.tell x).1.Inv) (hne : opAt T.cfg.op x ≠ opAt T.cfg.op y) :
    ((T.tell y).1.tell x).2 = (T.tell x).2 ∧ ((T.tell x).1.tell y).2 = (T.tell y).2 ∧ ((T.tell y).1.tell x).1.L = ((T.tell x).1.tell y).1.L ∧ ((T.tell y).1.tell x).1.cnt = ((T.tell x).1.tell y).1.cnt ∧ ((T.tell y).1.tell x).1.now = ((T.tell x).1.tell y).1.now := by
  obtain ⟨n, hn⟩ : ∃ n, n = T.cfg.op := ⟨_, rfl⟩
  rw [← hn] at hne
  have fy : SameA n (opAt n x) T (T.tell y).1 := frame_tell T hn.symm (Ne.symm hne)
  have fx : SameA n (opAt n y) T (T.tell x).1 := frame_tell T hn.symm hne
  obtain ⟨sx1, sx2⟩ := fy.tell hi hy
  obtain ⟨sy1, sy2⟩ := fx.tell hi hx
  have hnx : (T.tell x).1.cfg.op = n := by rw [fx.cfg, hn]
  have hny : (T.tell y).1.cfg.op = n := by rw [fy.cfg, hn]
  refine ⟨sx1, sy1, rise_ext hyx.rise hxy.rise fun r => ?_, ?_, ?_⟩
  · by_cases ca : oprK r.cell.k n = opAt n x
    · rw [sx2.mem r ca]
      exact ((frame_tell (b := opAt n x) (T.tell x).1 hnx (Ne.symm hne)).mem r ca).symm
    · by_cases cb : oprK r.cell.k n = opAt n y
      · rw [sy2.mem r cb]
        exact (frame_tell (b := opAt n y) (T.tell y).1 hny hne).mem r cb
      · rw [(frame_tell (b := oprK r.cell.k n) (T.tell y).1 hny (Ne.symm ca)).mem r rfl, (frame_tell (b := oprK r.cell.k n) (T.tell x).1 hnx (Ne.symm cb)).mem r rfl,
          (frame_tell (b := oprK r.cell.k n) T hn.symm (Ne.symm cb)).mem r rfl, (frame_tell (b := oprK r.cell.k n) T hn.symm (Ne.symm ca)).mem r rfl]
  · rw [(tell_cnt _ _).1, (tell_cnt _ _).1, (tell_cnt _ _).1, (tell_cnt _ _).1, sx1, sy1, Cnt.bump_comm]
  · rw [(tell_cnt _ _).2, (tell_cnt _ _).2, (tell_cnt _ _).2, (tell_cnt _ _).2]
end Go.Proofs.YtaicecnfodhlcaaGreat
/- tells, at: what an event, a mark, a kill is answered; its operator. -/
set_option linter.unusedVariables false
set_option linter.unusedSimpArgs false
namespace Go.Proofs.YtaicecnfodhlcaaGreat
open Go.RowKit Go.Deep

set_option maxRecDepth 100000 in
set_option maxHeartbeats 4000000 in
theorem tell_1 {w : World} {B : MB} {S : Mst} (h : IsModel w B S) (mk : Bool) (ik : ByteArray) (it iv : Int) (full : Bool) (o s t cv : Int) (ck : ByteArray) (cs se qk qi qe : Int) (qa : Option Addr) (cells : List Cell) (qc : Nat) (fv : Int) (fk : ByteArray) (fs tv : Int) (tk : ByteArray) (ts lim r : Int) (hk : ik.size ≤ maxLen) (hv : is64 iv) (hmax : S.L.length ≤ 100000000) (hcn : S.cnt.t ≤ 100000000 ∧ S.cnt.l ≤ 100000000 ∧ S.cnt.o ≤ 100000000 ∧ S.cnt.f ≤ 100000000) :
    Calls Tryz.prog 34 #[.pointer (some ⟨B.mp, 0, none⟩), .agg #[.int .i64 1, .bool mk, .string ik, .int .i64 it, .int .i64 iv, .bool full, .int .i64 o, .int .i64 s, .int .i64 t, .int .i64 cv, .string ck, .int .i64 cs, .int .i64 se, .int .i64 qk, .int .i64 qi, .int .i64 qe, .slice qa cells.length qc, .int .i64 fv, .string fk, .int .i64 fs, .int .i64 tv, .string tk, .int .i64 ts, .int .i64 lim, .int .i64 r]] w fun e w' => e = .returned (.tuple #[.int .i64 (S.event mk ik it iv full).2.1, .int .i64 (S.event mk ik it iv full).2.2]) ∧ ∃ B', IsModel w' B' (S.event mk ik it iv full).1 ∧ Turn w w' B B' := by
  have hb0 : Below w.heap.size w (w.alloc (.cells #[.int .i64 1, .bool mk, .string ik, .int .i64 it, .int .i64 iv, .bool full, .int .i64 o, .int .i64 s, .int .i64 t, .int .i64 cv, .string ck, .int .i64 cs, .int .i64 se, .int .i64 qk, .int .i64 qi, .int .i64 qe, .slice qa cells.length qc, .int .i64 fv, .string fk, .int .i64 fs, .int .i64 tv, .string tk, .int .i64 ts, .int .i64 lim, .int .i64 r] 41)) := (Below.refl _ _).alloc (Nat.le_refl _) _
  have hc := event_any (h.below hb0) mk full ik it iv hk hv hmax hcn
  clear hk hv hmax hcn
  have Hb0 := Lib.hid hb0
  have Hh := Lib.hid h
  clear h hb0
  go_enter Tryz.func34, Tryz.ntmps34
  go_wp2_with fail
  refine hc.mono ?_
  rintro e w1 ⟨rfl, hM, hT⟩
  have HM := Lib.hid hM
  have HT := Lib.hid hT
  clear hc hM hT
  go_wp2_with fail
  go_ret2
  exact ⟨rfl, B, HM.out, (Turn.of_below B Hb0.out).trans HT.out⟩

set_option maxRecDepth 100000 in
set_option maxHeartbeats 4000000 in
theorem tell_2 {w : World} {B : MB} {S : Mst} (h : IsModel w B S) (mk : Bool) (ik : ByteArray) (it iv : Int) (full : Bool) (o s t cv : Int) (ck : ByteArray) (cs se qk qi qe : Int) (qa : Option Addr) (cells : List Cell) (qc : Nat) (fv : Int) (fk : ByteArray) (fs tv : Int) (tk : ByteArray) (ts lim r : Int) (hmax : S.L.length ≤ 100000000) (htl : ∀ l ∈ S.told, l.length ≤ 100000000) :
    Calls Tryz.prog 34 #[.pointer (some ⟨B.mp, 0, none⟩), .agg #[.int .i64 2, .bool mk, .string ik, .int .i64 it, .int .i64 iv, .bool full, .int .i64 o, .int .i64 s, .int .i64 t, .int .i64 cv, .string ck, .int .i64 cs, .int .i64 se, .int .i64 qk, .int .i64 qi, .int .i64 qe, .slice qa cells.length qc, .int .i64 fv, .string fk, .int .i64 fs, .int .i64 tv, .string tk, .int .i64 ts, .int .i64 lim, .int .i64 r]] w fun e w' => e = .returned (.tuple #[.int .i64 0, .int .i64 (S.mark o s t).2]) ∧ ∃ B', IsModel w' B' (S.mark o s t).1 ∧ Turn w w' B B' := by
  have hb0 : Below w.heap.size w (w.alloc (.cells #[.int .i64 2, .bool mk, .string ik, .int .i64 it, .int .i64 iv, .bool full, .int .i64 o, .int .i64 s, .int .i64 t, .int .i64 cv, .string ck, .int .i64 cs, .int .i64 se, .int .i64 qk, .int .i64 qi, .int .i64 qe, .slice qa cells.length qc, .int .i64 fv, .string fk, .int .i64 fs, .int .i64 tv, .string tk, .int .i64 ts, .int .i64 lim, .int .i64 r] 41)) := (Below.refl _ _).alloc (Nat.le_refl _) _
  have hc := mark_any (h.below hb0) o s t hmax htl
  clear hmax htl
  have Hb0 := Lib.hid hb0
  have Hh := Lib.hid h
  clear h hb0
  go_enter Tryz.func34, Tryz.ntmps34
  go_wp2_with fail
  refine hc.mono ?_
  rintro e w1 ⟨rfl, B', hM, hT⟩
  have HM := Lib.hid hM
  have HT := Lib.hid hT
  clear hc hM hT
  go_wp2_with fail
  go_ret2
  exact ⟨rfl, B', HM.out, (Turn.of_below B Hb0.out).trans HT.out⟩

set_option maxRecDepth 100000 in
set_option maxHeartbeats 4000000 in
theorem tell_3 {w : World} {B : MB} {S : Mst} (h : IsModel w B S) (k : Int) (mk : Bool) (ik : ByteArray) (it iv : Int) (full : Bool) (o s t cv : Int) (ck : ByteArray) (cs se qk qi qe : Int) (qa : Option Addr) (cells : List Cell) (qc : Nat) (fv : Int) (fk : ByteArray) (fs tv : Int) (tk : ByteArray) (ts lim r : Int) (h1 : k ≠ 1) (h2 : k ≠ 2) (hmax : S.L.length ≤ 100000000) :
    Calls Tryz.prog 34 #[.pointer (some ⟨B.mp, 0, none⟩), .agg #[.int .i64 k, .bool mk, .string ik, .int .i64 it, .int .i64 iv, .bool full, .int .i64 o, .int .i64 s, .int .i64 t, .int .i64 cv, .string ck, .int .i64 cs, .int .i64 se, .int .i64 qk, .int .i64 qi, .int .i64 qe, .slice qa cells.length qc, .int .i64 fv, .string fk, .int .i64 fs, .int .i64 tv, .string tk, .int .i64 ts, .int .i64 lim, .int .i64 r]] w fun e w' => e = .returned (.tuple #[.int .i64 0, .int .i64 (S.kill ⟨cv, ck, cs⟩).2]) ∧ ∃ B', IsModel w' B' (S.kill ⟨cv, ck, cs⟩).1 ∧ Turn w w' B B' := by
  have hb0 : Below w.heap.size w (w.alloc (.cells #[.int .i64 k, .bool mk, .string ik, .int .i64 it, .int .i64 iv, .bool full, .int .i64 o, .int .i64 s, .int .i64 t, .int .i64 cv, .string ck, .int .i64 cs, .int .i64 se, .int .i64 qk, .int .i64 qi, .int .i64 qe, .slice qa cells.length qc, .int .i64 fv, .string fk, .int .i64 fs, .int .i64 tv, .string tk, .int .i64 ts, .int .i64 lim, .int .i64 r] 41)) := (Below.refl _ _).alloc (Nat.le_refl _) _
  have hc := kill_any (h.below hb0) ⟨cv, ck, cs⟩ hmax
  clear hmax
  dsimp only at hc
  have e1 : (k == 1) = false := by simpa using h1
  have e2 : (k == 2) = false := by simpa using h2
  have Hb0 := Lib.hid hb0
  have Hh := Lib.hid h
  clear h hb0
  go_enter Tryz.func34, Tryz.ntmps34
  go_wp2_with fail
  refine hc.mono ?_
  rintro e w1 ⟨rfl, hM, hT⟩
  have HM := Lib.hid hM
  have HT := Lib.hid hT
  clear hc hM hT
  go_wp2_with fail
  go_ret2
  exact ⟨rfl, B, HM.out, (Turn.of_below B Hb0.out).trans HT.out⟩

set_option maxRecDepth 100000 in
set_option maxHeartbeats 4000000 in
theorem at_1 {w : World} {B : MB} {S : Mst} (h : IsModel w B S) (mk : Bool) (ik : ByteArray) (it iv : Int) (full : Bool) (o s t cv : Int) (ck : ByteArray) (cs se qk qi qe : Int) (qa : Option Addr) (cells : List Cell) (qc : Nat) (fv : Int) (fk : ByteArray) (fs tv : Int) (tk : ByteArray) (ts lim r : Int) (hk : ik.size ≤ maxLen) :
    Calls Tryz.prog 32 #[.pointer (some ⟨B.mp, 0, none⟩), .agg #[.int .i64 1, .bool mk, .string ik, .int .i64 it, .int .i64 iv, .bool full, .int .i64 o, .int .i64 s, .int .i64 t, .int .i64 cv, .string ck, .int .i64 cs, .int .i64 se, .int .i64 qk, .int .i64 qi, .int .i64 qe, .slice qa cells.length qc, .int .i64 fv, .string fk, .int .i64 fs, .int .i64 tv, .string tk, .int .i64 ts, .int .i64 lim, .int .i64 r]] w fun e w' => e = .returned (.tuple #[.int .i64 (oprK ik S.cfg.op), .bool true]) ∧ Below w.heap.size w w' := by
  have hb0 : Below w.heap.size w (w.alloc (.cells #[.int .i64 1, .bool mk, .string ik, .int .i64 it, .int .i64 iv, .bool full, .int .i64 o, .int .i64 s, .int .i64 t, .int .i64 cv, .string ck, .int .i64 cs, .int .i64 se, .int .i64 qk, .int .i64 qi, .int .i64 qe, .slice qa cells.length qc, .int .i64 fv, .string fk, .int .i64 fs, .int .i64 tv, .string tk, .int .i64 ts, .int .i64 lim, .int .i64 r] 41)) := (Below.refl _ _).alloc (Nat.le_refl _) _
  have hc := mOperator_any (h.below hb0) ik hk
  clear hk
  have Hb0 := Lib.hid hb0
  have Hh := Lib.hid h
  clear h hb0
  go_enter Tryz.func32, Tryz.ntmps32
  go_wp2_with fail
  refine hc.mono ?_
  rintro e w1 ⟨rfl, hb1⟩
  have HB := Lib.hid hb1
  clear hc hb1
  go_wp2_with fail
  go_ret2
  exact ⟨rfl, Hb0.out.trans (HB.out.mono Hb0.out.size)⟩

set_option maxRecDepth 100000 in
set_option maxHeartbeats 4000000 in
theorem at_2 {w : World} {B : MB} {S : Mst} (h : IsModel w B S) (mk : Bool) (ik : ByteArray) (it iv : Int) (full : Bool) (o s t cv : Int) (ck : ByteArray) (cs se qk qi qe : Int) (qa : Option Addr) (cells : List Cell) (qc : Nat) (fv : Int) (fk : ByteArray) (fs tv : Int) (tk : ByteArray) (ts lim r : Int) :
    Calls Tryz.prog 32 #[.pointer (some ⟨B.mp, 0, none⟩), .agg #[.int .i64 2, .bool mk, .string ik, .int .i64 it, .int .i64 iv, .bool full, .int .i64 o, .int .i64 s, .int .i64 t, .int .i64 cv, .string ck, .int .i64 cs, .int .i64 se, .int .i64 qk, .int .i64 qi, .int .i64 qe, .slice qa cells.length qc, .int .i64 fv, .string fk, .int .i64 fs, .int .i64 tv, .string tk, .int .i64 ts, .int .i64 lim, .int .i64 r]] w fun e w' => e = .returned (.tuple #[.int .i64 o, .bool true]) ∧ Below w.heap.size w w' := by
  have hb0 : Below w.heap.size w (w.alloc (.cells #[.int .i64 2, .bool mk, .string ik, .int .i64 it, .int .i64 iv, .bool full, .int .i64 o, .int .i64 s, .int .i64 t, .int .i64 cv, .string ck, .int .i64 cs, .int .i64 se, .int .i64 qk, .int .i64 qi, .int .i64 qe, .slice qa cells.length qc, .int .i64 fv, .string fk, .int .i64 fs, .int .i64 tv, .string tk, .int .i64 ts, .int .i64 lim, .int .i64 r] 41)) := (Below.refl _ _).alloc (Nat.le_refl _) _
  have Hb0 := Lib.hid hb0
  have Hh := Lib.hid h
  clear h hb0
  go_enter Tryz.func32, Tryz.ntmps32
  go_wp2_with fail
  go_ret2
  exact ⟨rfl, Hb0.out⟩

set_option maxRecDepth 100000 in
set_option maxHeartbeats 4000000 in
theorem at_3 {w : World} {B : MB} {S : Mst} (h : IsModel w B S) (mk : Bool) (ik : ByteArray) (it iv : Int) (full : Bool) (o s t cv : Int) (ck : ByteArray) (cs se qk qi qe : Int) (qa : Option Addr) (cells : List Cell) (qc : Nat) (fv : Int) (fk : ByteArray) (fs tv : Int) (tk : ByteArray) (ts lim r : Int) (hk : ck.size ≤ maxLen) :
    Calls Tryz.prog 32 #[.pointer (some ⟨B.mp, 0, none⟩), .agg #[.int .i64 3, .bool mk, .string ik, .int .i64 it, .int .i64 iv, .bool full, .int .i64 o, .int .i64 s, .int .i64 t, .int .i64 cv, .string ck, .int .i64 cs, .int .i64 se, .int .i64 qk, .int .i64 qi, .int .i64 qe, .slice qa cells.length qc, .int .i64 fv, .string fk, .int .i64 fs, .int .i64 tv, .string tk, .int .i64 ts, .int .i64 lim, .int .i64 r]] w fun e w' => e = .returned (.tuple #[.int .i64 (oprK ck S.cfg.op), .bool true]) ∧ Below w.heap.size w w' := by
  have hb0 : Below w.heap.size w (w.alloc (.cells #[.int .i64 3, .bool mk, .string ik, .int .i64 it, .int .i64 iv, .bool full, .int .i64 o, .int .i64 s, .int .i64 t, .int .i64 cv, .string ck, .int .i64 cs, .int .i64 se, .int .i64 qk, .int .i64 qi, .int .i64 qe, .slice qa cells.length qc, .int .i64 fv, .string fk, .int .i64 fs, .int .i64 tv, .string tk, .int .i64 ts, .int .i64 lim, .int .i64 r] 41)) := (Below.refl _ _).alloc (Nat.le_refl _) _
  have hc := mOperator_any (h.below hb0) ck hk
  clear hk
  have Hb0 := Lib.hid hb0
  have Hh := Lib.hid h
  clear h hb0
  go_enter Tryz.func32, Tryz.ntmps32
  go_wp2_with fail
  refine hc.mono ?_
  rintro e w1 ⟨rfl, hb1⟩
  have HB := Lib.hid hb1
  clear hc hb1
  go_wp2_with fail
  go_ret2
  exact ⟨rfl, Hb0.out.trans (HB.out.mono Hb0.out.size)⟩

set_option maxRecDepth 100000 in
set_option maxHeartbeats 4000000 in
theorem at_0 {w : World} {B : MB} {S : Mst} (h : IsModel w B S) (k : Int) (mk : Bool) (ik : ByteArray) (it iv : Int) (full : Bool) (o s t cv : Int) (ck : ByteArray) (cs se qk qi qe : Int) (qa : Option Addr) (cells : List Cell) (qc : Nat) (fv : Int) (fk : ByteArray) (fs tv : Int) (tk : ByteArray) (ts lim r : Int) (h1 : k ≠ 1) (h2 : k ≠ 2) (h3 : k ≠ 3) :
    Calls Tryz.prog 32 #[.pointer (some ⟨B.mp, 0, none⟩), .agg #[.int .i64 k, .bool mk, .string ik, .int .i64 it, .int .i64 iv, .bool full, .int .i64 o, .int .i64 s, .int .i64 t, .int .i64 cv, .string ck, .int .i64 cs, .int .i64 se, .int .i64 qk, .int .i64 qi, .int .i64 qe, .slice qa cells.length qc, .int .i64 fv, .string fk, .int .i64 fs, .int .i64 tv, .string tk, .int .i64 ts, .int .i64 lim, .int .i64 r]] w fun e w' => e = .returned (.tuple #[.int .i64 0, .bool false]) ∧ Below w.heap.size w w' := by
  have hb0 : Below w.heap.size w (w.alloc (.cells #[.int .i64 k, .bool mk, .string ik, .int .i64 it, .int .i64 iv, .bool full, .int .i64 o, .int .i64 s, .int .i64 t, .int .i64 cv, .string ck, .int .i64 cs, .int .i64 se, .int .i64 qk, .int .i64 qi, .int .i64 qe, .slice qa cells.length qc, .int .i64 fv, .string fk, .int .i64 fs, .int .i64 tv, .string tk, .int .i64 ts, .int .i64 lim, .int .i64 r] 41)) := (Below.refl _ _).alloc (Nat.le_refl _) _
  have e1 : (k == 1) = false := by simpa using h1
  have e2 : (k == 2) = false := by simpa using h2
  have e3 : (k == 3) = false := by simpa using h3
  have Hb0 := Lib.hid hb0
  have Hh := Lib.hid h
  clear h hb0
  go_enter Tryz.func32, Tryz.ntmps32
  go_wp2_with fail
  go_ret2
  exact ⟨rfl, Hb0.out⟩

/-- tells, whatever it is asked. -/
theorem Mine.tell {w0 w : World} {mp : Nat} {B : MB} {T : Mst} {n : Nat} (h : Mine w0 w mp B T n) (hn : n ≤ 99999) (x : Opx) (hx : OpOk w x) :
    Calls Tryz.prog 34 #[.pointer (some ⟨mp, 0, none⟩), opV x] w fun e w' => e = .returned (.tuple #[.int .i64 (T.tell x).2.1, .int .i64 (T.tell x).2.2]) ∧ ∃ B', Mine w0 w' mp B' (T.tell x).1 (n + 1) ∧ Turn w w' B B' := by
  have hmp := h.mp
  subst hmp
  have key : Calls Tryz.prog 34 #[.pointer (some ⟨B.mp, 0, none⟩), opV x] w fun e w' => e = .returned (.tuple #[.int .i64 (T.tell x).2.1, .int .i64 (T.tell x).2.2]) ∧ ∃ B', IsModel w' B' (T.tell x).1 ∧ Turn w w' B B' := by
    obtain ⟨k, mk, ik, it, iv, full, o, s, t, ⟨cv, ck, cs⟩, se, ⟨qk, qi, qe, cells, ⟨fv, fk, fs⟩, ⟨tv, tk, ts⟩, lim⟩, qa, qc, r⟩ := x
    unfold Mst.tell
    dsimp only
    by_cases h1 : k = 1
    · subst h1
      rw [if_pos rfl]
      exact tell_1 h.md _ _ _ _ _ _ _ _ _ _ _ _ _ _ _ _ _ _ _ _ _ _ _ _ _ _ hx.key hx.val (h.max (by omega)) ⟨by have := h.few.ct; omega, by have := h.few.cl; omega, by have := h.few.co; omega, by have := h.few.cf; omega⟩
    rw [if_neg h1]
    by_cases h2 : k = 2
    · subst h2
      rw [if_pos rfl]
      exact tell_2 h.md _ _ _ _ _ _ _ _ _ _ _ _ _ _ _ _ _ _ _ _ _ _ _ _ _ _ (h.max (by omega)) (fun l hl => by have := h.few.td l hl; omega)
    rw [if_neg h2]
    exact tell_3 h.md k _ _ _ _ _ _ _ _ _ _ _ _ _ _ _ _ _ _ _ _ _ _ _ _ _ _ h1 h2 (h.max (by omega))
  refine key.mono ?_
  rintro e w' ⟨he, B', hM, hT⟩
  refine ⟨he, B', h.turn hM hT ?_, hT⟩
  unfold Mst.tell
  split; · exact h.few.event h.md.inv _ _ _ _ _
  split; · exact h.few.mark _ _ _
  exact (h.few.kill _).mono (Nat.le_succ n)
/-- at, whatever it is asked. -/
theorem Mine.opAt {w0 w : World} {mp : Nat} {B : MB} {T : Mst} {n : Nat} (h : Mine w0 w mp B T n) (x : Opx) (hx : OpOk w x) (hck : x.c.k.size ≤ maxLen) :
    Calls Tryz.prog 32 #[.pointer (some ⟨mp, 0, none⟩), opV x] w fun e w' => (∃ (a : Int) (b : Bool), e = .returned (.tuple #[.int .i64 a, .bool b]) ∧ (b = true → a = opAt T.cfg.op x)) ∧ Below w.heap.size w w' := by
  have hmp := h.mp
  subst hmp
  obtain ⟨k, mk, ik, it, iv, full, o, s, t, ⟨cv, ck, cs⟩, se, ⟨qk, qi, qe, cells, ⟨fv, fk, fs⟩, ⟨tv, tk, ts⟩, lim⟩, qa, qc, r⟩ := x
  unfold Go.Proofs.YtaicecnfodhlcaaGreat.opAt
  dsimp only at *
  by_cases h1 : k = 1
  · subst h1
    rw [if_pos rfl]
    refine (at_1 h.md _ _ _ _ _ _ _ _ _ _ _ _ _ _ _ _ _ _ _ _ _ _ _ _ _ _ hx.key).mono ?_
    rintro e w' ⟨rfl, hb⟩
    exact ⟨⟨_, _, rfl, fun _ => rfl⟩, hb⟩
  rw [if_neg h1]
  by_cases h2 : k = 2
  · subst h2
    rw [if_pos rfl]
    refine (at_2 h.md _ _ _ _ _ _ _ _ _ _ _ _ _ _ _ _ _ _ _ _ _ _ _ _ _ _).mono ?_
    rintro e w' ⟨rfl, hb⟩
    exact ⟨⟨_, _, rfl, fun _ => rfl⟩, hb⟩
  rw [if_neg h2]
  by_cases h3 : k = 3
  · subst h3
    refine (at_3 h.md _ _ _ _ _ _ _ _ _ _ _ _ _ _ _ _ _ _ _ _ _ _ _ _ _ _ hck).mono ?_
    rintro e w' ⟨rfl, hb⟩
    exact ⟨⟨_, _, rfl, fun _ => rfl⟩, hb⟩
  · refine (at_0 h.md k _ _ _ _ _ _ _ _ _ _ _ _ _ _ _ _ _ _ _ _ _ _ _ _ _ _ h1 h2 h3).mono ?_
    rintro e w' ⟨rfl, hb⟩
    exact ⟨⟨_, _, rfl, fun h => (by cases h)⟩, hb⟩
end Go.Proofs.YtaicecnfodhlcaaGreat
/- Twin: the parts of a model that is being copied. -/
set_option linter.unusedVariables false
set_option linter.unusedSimpArgs false
namespace Go.Proofs.YtaicecnfodhlcaaGreat
open Go.RowKit Go.Deep

/-- A model that is being made, all of it new. -/
structure Twn (w0 w : World) (B : MB) (S : Mst) : Prop where
  p : Parts w B S
  low : ∀ g, B.lab g ≠ .no → w0.heap.size ≤ g
  below : Below w0.heap.size w0 w
theorem Twn.turn {w0 w w' : World} {B B' : MB} {S S' : Mst} (h : Twn w0 w B S) (hP : Parts w' B' S') (hT : Turn w w' B B') : Twn w0 w' B' S' :=
  have hl := hT.lower h.low h.below.size
  ⟨hP, hl.2, h.below.trans hl.1⟩
theorem Twn.keep {w0 w w' : World} {B : MB} {S : Mst} (h : Twn w0 w B S) (hb : Below w.heap.size w w') : Twn w0 w' B S := ⟨h.p.below hb, h.low, h.below.trans (hb.mono h.below.size)⟩
theorem Twn.away {w0 w : World} {B : MB} {S : Mst} (h : Twn w0 w B S) {g : Nat} (hg : w.heap.size ≤ g) : B.lab g = .no := by
  refine Decidable.byContradiction fun hn => ?_
  have := h.p.lt g hn
  omega

theorem Twn.chg {w0 w w' : World} {B : MB} {S : Mst} (h : Twn w0 w B S) {g : Nat} (hc : Chg [g] w w') (hno : B.lab g = .no) (hg : w0.heap.size ≤ g) : Twn w0 w' B S :=
  ⟨h.p.keep hc.size fun x hx => hc.block x (h.p.lt x hx) (by intro hm; rw [List.mem_singleton.1 hm] at hx; exact hx hno), h.low, Below.chain h.below hc h.below.size (fun x hx => by rw [List.mem_singleton.1 hx]; exact hg)⟩
theorem Twn.old {w0 w : World} {B : MB} {S : Mst} (h : Twn w0 w B S) {g : Nat} (hg : g < w0.heap.size) : B.lab g = .no := by
  refine Decidable.byContradiction fun hn => ?_
  have := h.low g hn
  omega
/-- A block that was no one's gets a label. -/
theorem lab_old {B : MB} {b : Nat} {x : Lbl} (hno : B.lab b = .no) : ∀ g, B.lab g ≠ .no → (if g = b then x else B.lab g) = B.lab g := fun g hg => by
  rw [if_neg (fun e => hg (by rw [e]; exact hno))]
theorem lab_new {B : MB} {b : Nat} {x : Lbl} {g : Nat} (h : (if g = b then x else B.lab g) ≠ .no) : g = b ∨ B.lab g ≠ .no := by
  by_cases e : g = b
  · exact .inl e
  · rw [if_neg e] at h; exact .inr h

abbrev MB.there' (B : MB) (b : Nat) : MB := { B with bt := b, lab := fun g => if g = b then .there else B.lab g }
abbrev Mst.based (S : Mst) (L : List Rw) (now : Int) (ct : Cnt) : Mst := { S with L := L, now := now, cnt := ct }
theorem Parts.based {w w' : World} {B : MB} {S : Mst} (h : Parts w B S) (L : List Rw) (now : Int) (ct : Cnt) (b : Nat) (hset : HasMap w b L) (hno : B.lab b = .no) (hc : Chg [B.mp] w w')
    (hobj : w'.heap[B.mp]? = some (.cells #[.slice B.av S.cfg.vs.length B.vcap, .int .i64 S.cfg.so, .int .i64 S.cfg.op, .int .i64 S.cfg.sh, .int .i64 S.cfg.sl, .int .i64 S.cfg.bx, .int .i64 S.cfg.ad, .int .i64 S.cfg.pi, .int .i64 S.cfg.ch, .int .i64 S.cfg.fr, .int .i64 S.cfg.inn, .int .i64 S.cfg.out,
      .map (some b), .slice B.ma S.ms.length B.mcap, .slice B.ta S.told.length B.tcap, .int .i64 now, .map (some B.bs), .map (some B.bh), .int .i64 ct.t, .int .i64 ct.l, .int .i64 ct.o, .int .i64 ct.f, .int .i64 0, .int .i64 0] 102 (0, 0))) :
    Parts w' (B.there' b) (S.based L now ct) := by
  have hl : ∀ g, B.lab g ≠ .no → (B.there' b).lab g = B.lab g := lab_old hno
  have hl' : ∀ g x, x ≠ .no → B.lab g = x → (B.there' b).lab g = x := fun g x hx e => (hl g (by rw [e]; exact hx)).trans e
  have hn : ∀ g x, B.lab g = x → x ≠ .no → x ≠ .obj → w'.heap[g]? = w.heap[g]? := fun g x e1 e2 e3 => hc.block g (h.lt g (by rw [e1]; exact e2)) (by
    intro hm
    have e := List.mem_singleton.1 hm
    exact e3 (by rw [← e1, e]; exact h.obj.lb))
  have hbm : b ≠ B.mp := fun e => by rw [e, h.obj.lb] at hno; cases hno
  refine ⟨⟨hobj, hl' _ _ (by decide) h.obj.lb⟩, ?_, ⟨hset.keep (hc.block b hset.lt (by simpa using hbm)), if_pos rfl⟩, ?_, ?_, ?_, ?_, ?_⟩
  · exact (h.views.keep fun g e => hn g _ e (by simp) (by simp)).cast rfl rfl rfl fun g e => hl' g _ (by simp) e
  · exact (h.marks.keep fun g e => by rcases e with e | ⟨i, e⟩ | ⟨i, e⟩ <;> exact hn g _ e (by simp) (by simp)).cast rfl rfl rfl rfl fun g e => hl g (by rcases e with e | ⟨i, e⟩ | ⟨i, e⟩ <;> (rw [e]; simp))
  · exact (h.told.keep fun g e => by rcases e with e | ⟨i, e⟩ <;> exact hn g _ e (by simp) (by simp)).cast rfl rfl rfl rfl fun g e => hl g (by rcases e with e | ⟨i, e⟩ <;> (rw [e]; simp))
  · exact (h.seals.keep fun g e => by rcases e with e | ⟨i, e⟩ <;> exact hn g _ e (by simp) (by simp)).cast rfl rfl rfl fun g e => hl g (by rcases e with e | ⟨i, e⟩ <;> (rw [e]; simp))
  · exact (h.holds.keep fun g e => by rcases e with e | ⟨i, e⟩ <;> exact hn g _ e (by simp) (by simp)).cast rfl rfl rfl fun g e => hl g (by rcases e with e | ⟨i, e⟩ <;> (rw [e]; simp))
  · intro g hg
    rcases lab_new hg with e | e
    · rw [e]; exact Nat.lt_of_lt_of_le hset.lt hc.size
    · exact Nat.lt_of_lt_of_le (h.lt g e) hc.size
theorem Twn.based {w0 w w' : World} {B : MB} {S : Mst} (h : Twn w0 w B S) (L : List Rw) (now : Int) (ct : Cnt) (b : Nat) (hset : HasMap w b L) (hno : B.lab b = .no) (hb : w0.heap.size ≤ b) (hc : Chg [B.mp] w w') (hP : Parts w' (B.there' b) (S.based L now ct)) : Twn w0 w' (B.there' b) (S.based L now ct) :=
  ⟨hP, fun g hg => by
    rcases lab_new hg with e | e
    · rw [e]; exact hb
    · exact h.low g e, Below.chain h.below hc h.below.size (fun g hg => by rw [List.mem_singleton.1 hg]; exact h.low _ (by rw [h.p.obj.lb]; simp))⟩

theorem mem_mPutI {m : List (Int × Value)} {c : Int} {x : Value} (p : Int × Value) : p ∈ mPut m c x ↔ p = (c, x) ∨ (p.1 ≠ c ∧ p ∈ m) := by
  unfold mPut
  by_cases hc : c ∈ m.map (·.1)
  · rw [if_pos hc, List.mem_map]
    constructor
    · rintro ⟨q, hq, rfl⟩
      by_cases h : q.1 = c
      · rw [if_pos h]; exact .inl rfl
      · rw [if_neg h]; exact .inr ⟨h, hq⟩
    · rintro (rfl | ⟨h1, h2⟩)
      · obtain ⟨q, hq, hqc⟩ := List.mem_map.1 hc
        exact ⟨q, hq, by rw [if_pos hqc]⟩
      · exact ⟨p, h2, by rw [if_neg h1]⟩
  · rw [if_neg hc, List.mem_append, List.mem_singleton]
    constructor
    · rintro (h | h)
      · exact .inr ⟨fun e => hc (by rw [← e]; exact List.mem_map.2 ⟨p, h, rfl⟩), h⟩
      · exact .inl h
    · rintro (h | ⟨_, h⟩)
      · exact .inr h
      · exact .inl h
abbrev Mst.heldAs (S : Mst) (s : Int) (p : Int → Bool) : Mst := { S with holds := fun s' e => if s' = s then p e else S.holds s' e }
theorem Parts.heldAt {w0 w : World} {B : MB} {S : Mst} (h : Parts w B S) (s : Int) (p : Int → Bool) (b : Nat) (hset : HasSet w b p) (hno : B.lab b = .no) (hb0 : Below w0.heap.size w0 w) (hb : w0.heap.size ≤ b) :
    ∃ w', (Instr.mapUpdate 98 (.map (some B.bh)) (.int .i64 s) (.map (some b))).run Tryz.prog w = .ok () w' ∧ Parts w' (B.opened s b) (S.heldAs s p) ∧ Turn w0 w' B (B.opened s b) := by
  obtain ⟨hlb, m, hm, h1, h2⟩ := h.holds
  obtain ⟨w', hr, hm', hg, hz⟩ := MapIs.update (P := Tryz.prog) keyInt Tryz.underlying98 hm s (.map (some b))
  have hc := Chg.of_grown hg
  have hk : ∀ g, B.lab g ≠ .no → g ≠ B.bh → w'.heap[g]? = w.heap[g]? := fun g hg hn => hc.block g (h.lt g hg) (by simpa using hn)
  have hn : ∀ g x, B.lab g = x → x ≠ .no → x ≠ .holds → w'.heap[g]? = w.heap[g]? := fun g x e1 e2 e3 => hk g (by rw [e1]; exact e2) (fun e4 => e3 (by rw [← e1, e4]; exact hlb))
  have hl : ∀ g, B.lab g ≠ .no → (B.opened s b).lab g = B.lab g := lab_old hno
  have hl' : ∀ g x, x ≠ .no → B.lab g = x → (B.opened s b).lab g = x := fun g x hx e => (hl g (by rw [e]; exact hx)).trans e
  have hbne : b ≠ B.bh := fun e => by rw [e, hlb] at hno; cases hno
  refine ⟨w', hr, ⟨?_, ?_, ?_, ?_, ?_, ?_, ⟨hl' _ _ (by decide) hlb, _, hm', ?_, ?_⟩, ?_⟩, ⟨rfl, ?_, ?_⟩⟩
  · have := h.obj.keep (w' := w') fun g e => hn g _ e (by simp) (by simp)
    exact ⟨this.obj, hl' _ _ (by decide) this.lb⟩
  · exact (h.views.keep fun g e => hn g _ e (by simp) (by simp)).cast rfl rfl rfl fun g e => hl' g _ (by simp) e
  · exact (h.there.keep fun g e => hn g _ e (by simp) (by simp)).cast rfl rfl fun g e => hl' g _ (by simp) e
  · exact (h.marks.keep fun g e => by rcases e with e | ⟨i, e⟩ | ⟨i, e⟩ <;> exact hn g _ e (by simp) (by simp)).cast rfl rfl rfl rfl fun g e => hl g (by rcases e with e | ⟨i, e⟩ | ⟨i, e⟩ <;> (rw [e]; simp))
  · exact (h.told.keep fun g e => by rcases e with e | ⟨i, e⟩ <;> exact hn g _ e (by simp) (by simp)).cast rfl rfl rfl rfl fun g e => hl g (by rcases e with e | ⟨i, e⟩ <;> (rw [e]; simp))
  · exact (h.seals.keep fun g e => by rcases e with e | ⟨i, e⟩ <;> exact hn g _ e (by simp) (by simp)).cast rfl rfl rfl fun g e => hl g (by rcases e with e | ⟨i, e⟩ <;> (rw [e]; simp))
  · intro s' b' hs'
    have hs'' : (if s' = s then some b else B.hk s') = some b' := hs'
    by_cases e1 : s' = s
    · rw [if_pos e1] at hs''
      cases hs''
      rw [e1]
      exact ⟨(mem_mPutI _).2 (.inl rfl), (hset.keep (hc.block b hset.lt (by simpa using hbne))).congr fun x => by simp, if_pos rfl⟩
    · rw [if_neg e1] at hs''
      obtain ⟨a1, a2, a3⟩ := h1 s' b' hs''
      exact ⟨(mem_mPutI _).2 (.inr ⟨e1, a1⟩), (a2.keep (hn _ _ a3 (by simp) (by simp))).congr fun x => by simp [e1], hl' _ _ (by simp) a3⟩
  · intro s' hs'
    have hs'' : (if s' = s then some b else B.hk s') = none := hs'
    by_cases e1 : s' = s
    · rw [if_pos e1] at hs''; cases hs''
    · rw [if_neg e1] at hs''
      refine ⟨fun hh => ?_, fun e => ?_⟩
      · rcases (mPut_keys s').1 hh with h | h
        · exact (h2 s' hs'').1 h
        · exact e1 h
      · show (if s' = s then p e else S.holds s' e) = false
        rw [if_neg e1]
        exact (h2 s' hs'').2 e
  · intro g hg
    rcases lab_new hg with e | e
    · rw [e, hz]; exact hset.lt
    · rw [hz]; exact h.lt g e
  · exact ⟨hc.os.trans hb0.os, hc.tape.trans hb0.tape, hc.output.trans hb0.output, by have := hb0.size; omega, fun g hg hn' => (hc.block g (by have := hb0.size; omega) (by simp; intro e; exact hn' (by rw [e, hlb]; simp))).trans (hb0.block g hg)⟩
  · intro g hg
    rcases lab_new hg with e | e
    · exact .inr (by omega)
    · exact .inl e

abbrev Mst.risen (S : Mst) (o : Nat) (c : Int × Int) : Mst := { S with ms := S.ms.set o (riseL (S.ms.getD o []) c) }
theorem Parts.risen {w w' : World} {B : MB} {S : Mst} (h : Parts w B S) {o : Nat} (ho : o < S.ms.length) (ho' : o < B.mks.length) (c : Int × Int) (hR : IsMarks w' B.mks[o].1 B.mks[o].2 (riseL (S.ms.getD o []) c)) (hc : Chg [B.mks[o].2] w w') :
    Parts w' B (S.risen o c) ∧ Turn w w' B B := by
  have hmk := h.marks.at' o ho' ho
  have hn : ∀ g x, B.lab g = x → x ≠ .no → x ≠ .mrow o → w'.heap[g]? = w.heap[g]? := fun g x e1 e2 e3 => hc.block g (h.lt g (by rw [e1]; exact e2)) (by
    intro hm
    have e := List.mem_singleton.1 hm
    exact e3 (by rw [← e1, e]; exact hmk.2.2))
  refine ⟨⟨?_, ?_, ?_, ?_, ?_, ?_, ?_, fun g hg => Nat.lt_of_lt_of_le (h.lt g hg) hc.size⟩, Turn.of_chg hc (fun g hg => by rw [List.mem_singleton.1 hg, hmk.2.2]; simp)⟩
  · have := h.obj.keep (w' := w') fun g e => hn g _ e (by simp) (by simp)
    refine ⟨?_, this.lb⟩
    have e := this.obj
    show w'.heap[B.mp]? = some (.cells #[_, _, _, _, _, _, _, _, _, _, _, _, _, .slice B.ma (S.ms.set o (riseL (S.ms.getD o []) c)).length B.mcap, _, _, _, _, _, _, _, _, _, _] _ _)
    rw [List.length_set]
    exact e
  · exact (h.views.keep fun g e => hn g _ e (by simp) (by simp)).cast rfl rfl rfl fun _ e => e
  · exact (h.there.keep fun g e => hn g _ e (by simp) (by simp)).cast rfl rfl fun _ e => e
  · have hown := h.marks.own.keep (w' := w') fun g hg _ => hn g _ (h.marks.lb g hg) (by simp) (by simp)
    refine ⟨?_, ?_, ?_, fun i h1 h2 => ?_⟩
    · show Own _ _ _ _ _ (.slice B.ma (S.ms.set o (riseL (S.ms.getD o []) c)).length B.mcap) _
      rw [List.length_set]
      exact hown
    · show ∀ g, (Value.slice B.ma (S.ms.set o (riseL (S.ms.getD o []) c)).length B.mcap).ownBlock = some g → _
      rw [List.length_set]
      exact h.marks.lb
    · show B.mks.length = (S.ms.set o (riseL (S.ms.getD o []) c)).length
      rw [List.length_set]
      exact h.marks.len
    · have h2' : i < S.ms.length := by have h3 : i < (S.ms.set o (riseL (S.ms.getD o []) c)).length := h2; rwa [List.length_set] at h3
      have hi := h.marks.at' i h1 h2'
      refine ⟨?_, hi.2⟩
      show IsMarks w' _ _ ((S.ms.set o (riseL (S.ms.getD o []) c))[i]'h2)
      by_cases e : i = o
      · subst e
        rw [List.getElem_set_self]
        exact hR
      · rw [List.getElem_set_ne (Ne.symm e)]
        exact hi.1.keep (hn _ _ hi.2.1 (by simp) (by simp)) (hn _ _ hi.2.2 (by simp) (by simp [e]))
  · exact (h.told.keep fun g e => by rcases e with e | ⟨i, e⟩ <;> exact hn g _ e (by simp) (by simp)).cast rfl rfl rfl rfl fun _ _ => rfl
  · exact (h.seals.keep fun g e => by rcases e with e | ⟨i, e⟩ <;> exact hn g _ e (by simp) (by simp)).cast rfl rfl rfl fun _ _ => rfl
  · exact (h.holds.keep fun g e => by rcases e with e | ⟨i, e⟩ <;> exact hn g _ e (by simp) (by simp)).cast rfl rfl rfl fun _ _ => rfl

abbrev MB.toldAt (B : MB) (o : Nat) (s : Slc) : MB := { B with tk := B.tk.set o s, lab := fun g => if s.v.ownBlock = some g then .told o else B.lab g }
abbrev Mst.toldAs (S : Mst) (o : Nat) (l : List (Int × Int)) : Mst := { S with told := S.told.set o l }
theorem Parts.toldAt {w0 w : World} {B : MB} {S : Mst} (h : Parts w B S) {o : Nat} (ho : o < S.told.length) (ho' : o < B.tk.length) (s : Slc) (l : List (Int × Int)) (hown : Own 161 2 callL w0.heap.size w s.v l) (hno : ∀ g, s.v.ownBlock = some g → B.lab g = .no) (hb0 : Below w0.heap.size w0 w) (ta : Nat) (hta : B.ta = some ⟨ta, 0, none⟩) :
    Parts (w.setCell ⟨ta, o, none⟩ s.v) (B.toldAt o s) (S.toldAs o l) ∧ Turn w0 (w.setCell ⟨ta, o, none⟩ s.v) B (B.toldAt o s) := by
  have hltA : B.lab ta = .toldO := h.told.lb ta (by rw [hta]; rfl)
  have hc : Chg [ta] w (w.setCell ⟨ta, o, none⟩ s.v) := Chg.set _ (by simp) _
  have hn : ∀ g x, B.lab g = x → x ≠ .no → x ≠ .toldO → (w.setCell ⟨ta, o, none⟩ s.v).heap[g]? = w.heap[g]? := fun g x e1 e2 e3 => hc.block g (h.lt g (by rw [e1]; exact e2)) (by
    intro hm
    have e := List.mem_singleton.1 hm
    exact e3 (by rw [← e1, e]; exact hltA))
  have hl : ∀ g, B.lab g ≠ .no → (B.toldAt o s).lab g = B.lab g := fun g hg => by
    show (if s.v.ownBlock = some g then Lbl.told o else B.lab g) = B.lab g
    rw [if_neg (fun e => hg (hno g e))]
  have hl' : ∀ g x, x ≠ .no → B.lab g = x → (B.toldAt o s).lab g = x := fun g x hx e => (hl g (by rw [e]; exact hx)).trans e
  have hnew : ∀ g, (B.toldAt o s).lab g ≠ .no → s.v.ownBlock = some g ∨ B.lab g ≠ .no := fun g hg => by
    have hg' : (if s.v.ownBlock = some g then Lbl.told o else B.lab g) ≠ .no := hg
    by_cases e : s.v.ownBlock = some g
    · exact .inl e
    · rw [if_neg e] at hg'; exact .inr hg'
  have hz : (w.setCell ⟨ta, o, none⟩ s.v).heap.size = w.heap.size := by simp [World.setCell]
  have hokeep : Own 161 2 callL 0 (w.setCell ⟨ta, o, none⟩ s.v) s.v l := (hown.mono (Nat.zero_le _)).keep fun g hg hlt => hc.block g hlt (by
    intro hm
    have e := List.mem_singleton.1 hm
    rw [e] at hg
    rw [hno _ hg] at hltA
    cases hltA)
  refine ⟨⟨?_, ?_, ?_, ?_, ?_, ?_, ?_, ?_⟩, rfl, ?_, ?_⟩
  · have := h.obj.keep (w' := w.setCell ⟨ta, o, none⟩ s.v) fun g e => hn g _ e (by simp) (by simp)
    refine ⟨?_, hl' _ _ (by decide) this.lb⟩
    have e := this.obj
    show (w.setCell ⟨ta, o, none⟩ s.v).heap[B.mp]? = some (.cells #[_, _, _, _, _, _, _, _, _, _, _, _, _, _, .slice B.ta (S.told.set o l).length B.tcap, _, _, _, _, _, _, _, _, _] _ _)
    rw [List.length_set]
    exact e
  · exact (h.views.keep fun g e => hn g _ e (by simp) (by simp)).cast rfl rfl rfl fun g e => hl' g _ (by simp) e
  · exact (h.there.keep fun g e => hn g _ e (by simp) (by simp)).cast rfl rfl fun g e => hl' g _ (by simp) e
  · exact (h.marks.keep fun g e => by rcases e with e | ⟨i, e⟩ | ⟨i, e⟩ <;> exact hn g _ e (by simp) (by simp)).cast rfl rfl rfl rfl fun g e => hl g (by rcases e with e | ⟨i, e⟩ | ⟨i, e⟩ <;> (rw [e]; simp))
  · have h0 := h.told.own
    rw [hta] at h0
    have hst := Own.set1 (f := fun s : Slc => s.v) (E := 159) (B := 0) (w := w) (xs := B.tk) h0 (by rw [h.told.len]) (k := o) ho' s
    refine ⟨?_, ?_, ?_, fun i h1 h2 => ?_⟩
    · show Own _ _ _ _ _ (.slice B.ta (S.told.set o l).length B.tcap) (B.tk.set o s)
      rw [List.length_set, hta]
      exact hst
    · show ∀ g, (Value.slice B.ta (S.told.set o l).length B.tcap).ownBlock = some g → _
      rw [List.length_set]
      exact fun g hg => hl' g _ (by simp) (h.told.lb g hg)
    · show (B.tk.set o s).length = (S.told.set o l).length
      rw [List.length_set, List.length_set]
      exact h.told.len
    · have h1' : i < B.tk.length := by have h3 : i < (B.tk.set o s).length := h1; rwa [List.length_set] at h3
      have h2' : i < S.told.length := by have h3 : i < (S.told.set o l).length := h2; rwa [List.length_set] at h3
      show Own _ _ _ _ _ ((B.tk.set o s)[i]'h1).v ((S.told.set o l)[i]'h2) ∧ ∀ g, ((B.tk.set o s)[i]'h1).v.ownBlock = some g → (B.toldAt o s).lab g = .told i
      by_cases e : i = o
      · subst e
        rw [List.getElem_set_self, List.getElem_set_self]
        exact ⟨hokeep, fun g hg => if_pos hg⟩
      · rw [List.getElem_set_ne (Ne.symm e), List.getElem_set_ne (Ne.symm e)]
        have hi := h.told.at' i h1' h2'
        exact ⟨hi.1.keep fun g hg _ => hn g _ (hi.2 g hg) (by simp) (by simp), fun g hg => hl' g _ (by simp) (hi.2 g hg)⟩
  · exact (h.seals.keep fun g e => by rcases e with e | ⟨i, e⟩ <;> exact hn g _ e (by simp) (by simp)).cast rfl rfl rfl fun g e => hl g (by rcases e with e | ⟨i, e⟩ <;> (rw [e]; simp))
  · exact (h.holds.keep fun g e => by rcases e with e | ⟨i, e⟩ <;> exact hn g _ e (by simp) (by simp)).cast rfl rfl rfl fun g e => hl g (by rcases e with e | ⟨i, e⟩ <;> (rw [e]; simp))
  · intro g hg
    rw [hz]
    rcases hnew g hg with e | e
    · exact (hown.ge e).2
    · exact h.lt g e
  · exact ⟨hc.os.trans hb0.os, hc.tape.trans hb0.tape, hc.output.trans hb0.output, by have := hb0.size; omega, fun g hg hn' => (hc.block g (by have := hb0.size; omega) (by
      intro hm
      have e := List.mem_singleton.1 hm
      exact hn' (by rw [e, hltA]; simp))).trans (hb0.block g hg)⟩
  · intro g hg
    rcases hnew g hg with e | e
    · exact .inr (hown.ge e).1
    · exact .inl e

/-! ### what has been copied -/
abbrev twS (S : Mst) (left : List (Int × Value)) : Mst := { (Mst.new S.cfg).based S.L S.now S.cnt with seals := fun e => if e ∈ left.map (·.1) then none else S.seals e }
abbrev twH (S : Mst) (left : List (Int × Value)) : Mst := { (Mst.new S.cfg).based S.L S.now S.cnt with seals := S.seals, holds := fun s e => if s ∈ left.map (·.1) then false else S.holds s e }
abbrev twT (S : Mst) (ms : List (List Int)) (td : List (List (Int × Int))) : Mst := { S with ms := ms, told := td }
theorem left_keys {left : List (Int × Value)} {c x : Int} : x ∈ (left.filter fun q => decide (q.1 ≠ c)).map (·.1) ↔ x ∈ left.map (·.1) ∧ x ≠ c := by
  constructor
  · intro h
    obtain ⟨q, hq, rfl⟩ := List.mem_map.1 h
    obtain ⟨h1, h2⟩ := List.mem_filter.1 hq
    exact ⟨List.mem_map.2 ⟨q, h1, rfl⟩, by simpa using h2⟩
  · rintro ⟨h, hne⟩
    obtain ⟨q, hq, rfl⟩ := List.mem_map.1 h
    exact List.mem_map.2 ⟨q, List.mem_filter.2 ⟨hq, by simpa using hne⟩, rfl⟩
theorem left_less {left : List (Int × Value)} {p : Int × Value} (hp : p ∈ left) : (left.filter fun q => decide (q.1 ≠ p.1)).length < left.length := by
  have h := List.length_filter_lt_length_iff_exists (l := left) (p := fun q => decide (q.1 ≠ p.1))
  exact h.2 ⟨p, hp, by simp⟩
theorem twS_start {S : Mst} {m : List (Int × Value)} (h : ∀ e L, S.seals e = some L → e ∈ m.map (·.1)) : (Mst.new S.cfg).based S.L S.now S.cnt = twS S m := by
  have e1 : (fun e => if e ∈ m.map (·.1) then none else S.seals e) = fun _ => (none : Option (List Rw)) := by
    funext e
    split
    · rfl
    · rename_i hn
      cases hs : S.seals e with
      | none => rfl
      | some L => exact absurd (h e L hs) hn
  unfold twS
  rw [e1]
  rfl
theorem twS_step {S : Mst} {left : List (Int × Value)} {e : Int} {L : List Rw} (hL : S.seals e = some L) : (twS S left).kept e L = twS S (left.filter fun q => decide (q.1 ≠ e)) := by
  have e1 : (fun e' => if e' = e then some L else if e' ∈ left.map (·.1) then none else S.seals e') = fun e' => if e' ∈ (left.filter fun q => decide (q.1 ≠ e)).map (·.1) then none else S.seals e' := by
    funext e'
    by_cases h : e' = e
    · subst h
      rw [if_pos rfl, if_neg (fun hm => (left_keys.1 hm).2 rfl), hL]
    · rw [if_neg h]
      by_cases hm : e' ∈ left.map (·.1)
      · rw [if_pos hm, if_pos (left_keys.2 ⟨hm, h⟩)]
      · rw [if_neg hm, if_neg (fun h2 => hm (left_keys.1 h2).1)]
  unfold twS Mst.kept
  dsimp only
  rw [e1]
theorem twH_start {S : Mst} {m : List (Int × Value)} (h : ∀ s e, S.holds s e = true → s ∈ m.map (·.1)) : twS S [] = twH S m := by
  have e1 : (fun s e => if s ∈ m.map (·.1) then false else S.holds s e) = fun _ _ => false := by
    funext s e
    split
    · rfl
    · rename_i hn
      cases hs : S.holds s e with
      | false => rfl
      | true => exact absurd (h s e hs) hn
  have e2 : (fun e => if e ∈ ([] : List (Int × Value)).map (·.1) then none else S.seals e) = S.seals := by
    funext e
    rw [if_neg (by simp)]
  unfold twS twH
  rw [e1, e2]
  rfl
theorem twH_step {S : Mst} {left : List (Int × Value)} {s : Int} : (twH S left).heldAs s (S.holds s) = twH S (left.filter fun q => decide (q.1 ≠ s)) := by
  have e1 : (fun s' e => if s' = s then S.holds s e else if s' ∈ left.map (·.1) then false else S.holds s' e) = fun s' e => if s' ∈ (left.filter fun q => decide (q.1 ≠ s)).map (·.1) then false else S.holds s' e := by
    funext s' e
    by_cases h : s' = s
    · subst h
      rw [if_pos rfl, if_neg (fun hm => (left_keys.1 hm).2 rfl)]
    · rw [if_neg h]
      by_cases hm : s' ∈ left.map (·.1)
      · rw [if_pos hm, if_pos (left_keys.2 ⟨hm, h⟩)]
      · rw [if_neg hm, if_neg (fun h2 => hm (left_keys.1 h2).1)]
  unfold twH Mst.heldAs
  dsimp only
  rw [e1]
theorem twH_end (S : Mst) : twH S [] = twT S (Mst.new S.cfg).ms (Mst.new S.cfg).told := by
  have e1 : (fun s e => if s ∈ ([] : List (Int × Value)).map (·.1) then false else S.holds s e) = S.holds := by
    funext s e
    rw [if_neg (by simp)]
  unfold twH twT
  rw [e1]
  rfl
/-- The operators ahead of o are copied. -/
structure Copd (S : Mst) (o : Nat) (ms : List (List Int)) (td : List (List (Int × Int))) : Prop where
  l1 : ms.length = S.ms.length
  l2 : td.length = S.told.length
  done : ∀ i, i < o → ms.getD i [] = S.ms.getD i [] ∧ td.getD i [] = S.told.getD i []
  todo : ∀ i, o ≤ i → i < S.ms.length → ms.getD i [] = List.replicate S.cfg.so.toNat noMark
theorem Copd.start {S : Mst} (h : S.Inv) : Copd S 0 (Mst.new S.cfg).ms (Mst.new S.cfg).told := by
  have h1 := h.msl
  have h2 := h.cfg.op
  have e1 : (Mst.new S.cfg).ms.length = S.ms.length := by
    show (List.replicate S.cfg.op.toNat _).length = _
    rw [List.length_replicate]; omega
  refine ⟨e1, ?_, fun i hi => absurd hi (Nat.not_lt_zero _), fun i _ hi => ?_⟩
  · show (List.replicate S.cfg.op.toNat _).length = _
    rw [List.length_replicate, h.tdl]; omega
  · have hi' : i < S.cfg.op.toNat := by omega
    show (List.replicate S.cfg.op.toNat (List.replicate S.cfg.so.toNat noMark)).getD i [] = _
    simp [List.getD, List.getElem?_replicate, hi']
theorem getD_ext {α : Type} {d : α} {xs ys : List α} (hl : xs.length = ys.length) (h : ∀ i, i < ys.length → xs.getD i d = ys.getD i d) : xs = ys := by
  apply List.ext_getElem hl
  intro i h1 h2
  have := h i h2
  simpa [h1, h2] using this
theorem Copd.fin {S : Mst} (h : S.Inv) {ms : List (List Int)} {td : List (List (Int × Int))} (hc : Copd S S.told.length ms td) : twT S ms td = S := by
  have e1 := getD_ext hc.l1 fun i hi => (hc.done i (by rw [h.tdl]; exact hi)).1
  have e2 := getD_ext hc.l2 fun i hi => (hc.done i hi).2
  rw [e1, e2]
theorem Copd.step {S : Mst} {o : Nat} {ms ms' : List (List Int)} {td : List (List (Int × Int))} (hc : Copd S o ms td) (ho : o < S.told.length) (hl : ms'.length = ms.length) (h1 : ms'.getD o [] = S.ms.getD o []) (h2 : ∀ i, i ≠ o → ms'.getD i [] = ms.getD i []) :
    Copd S (o + 1) ms' (td.set o (S.told.getD o [])) := by
  have hod : o < td.length := by rw [hc.l2]; exact ho
  refine ⟨hl.trans hc.l1, by rw [List.length_set]; exact hc.l2, fun i hi => ?_, fun i hi hi2 => ?_⟩
  · by_cases e : i = o
    · subst e
      refine ⟨h1, ?_⟩
      simp [hod]
    · refine ⟨(h2 i e).trans (hc.done i (by omega)).1, ?_⟩
      have h3 : (td.set o (S.told.getD o [])).getD i [] = td.getD i [] := by simp [List.getD, List.getElem?_set, Ne.symm e]
      rw [h3]
      exact (hc.done i (by omega)).2
  · rw [h2 i (by omega)]
    exact hc.todo i (by omega) hi2
theorem foldl_rise_len (cs : List (Int × Int)) (l : List Int) : (cs.foldl riseL l).length = l.length := by
  induction cs generalizing l with
  | nil => rfl
  | cons c t ih => rw [List.foldl_cons, ih, riseL_length]
/-- The marks of an operator: where they lie. -/
theorem Twn.marksAt {w0 w : World} {B : MB} {S : Mst} (h : Twn w0 w B S) {mb : Nat} (hma : B.ma = some ⟨mb, 0, none⟩) {o : Nat} (ho : o < S.ms.length) :
    w.cell? ⟨B.mp, 13, none⟩ = some (.slice (some ⟨mb, 0, none⟩) S.ms.length B.mcap) ∧ ∃ (hk : o < B.mks.length), w.cell? ⟨mb, o, none⟩ = some (.pointer (some ⟨B.mks[o].1, 0, none⟩)) ∧ IsMarks w B.mks[o].1 B.mks[o].2 (S.ms.getD o []) := by
  have hk : o < B.mks.length := by rw [h.p.marks.len]; exact ho
  obtain ⟨mb2, mo2, hme, _, hm0⟩ := (h.p.marks.own.sl0 (fun _ => rfl)).at1 hk rfl
  rw [hma] at hme
  injection hme with e
  injection e with e1 e2
  subst e1 e2
  rw [Nat.mul_one, Nat.zero_add] at hm0
  have hc := h.p.obj.cells.2.2.2.2.2.1
  rw [hma] at hc
  refine ⟨hc, hk, hm0, ?_⟩
  have hg : S.ms.getD o [] = S.ms[o] := by simp [ho]
  rw [hg]
  exact (h.p.marks.at' o hk ho).1
theorem Twn.maAt {w0 w : World} {B : MB} {S : Mst} (h : Twn w0 w B S) (hl : 1 ≤ S.ms.length) : ∃ mb, B.ma = some ⟨mb, 0, none⟩ := by
  have hk : 0 < B.mks.length := by rw [h.p.marks.len]; exact hl
  obtain ⟨mb, mo, hme, _, _⟩ := (h.p.marks.own.sl0 (fun _ => rfl)).at1 hk rfl
  rcases h.p.marks.own.from0 with e | ⟨g, e⟩
  · rw [e] at hme; cases hme
  · exact ⟨g, e⟩
theorem Twn.taAt {w0 w : World} {B : MB} {S : Mst} (h : Twn w0 w B S) (hl : 1 ≤ S.told.length) : ∃ ta, B.ta = some ⟨ta, 0, none⟩ := by
  have hk : 0 < B.tk.length := by rw [h.p.told.len]; exact hl
  obtain ⟨mb, mo, hme, _, _⟩ := (h.p.told.own.sl0 (fun _ => rfl)).at1 hk rfl
  rcases h.p.told.own.from0 with e | ⟨g, e⟩
  · rw [e] at hme; cases hme
  · exact ⟨g, e⟩
/-- What an operator heard, as the first model holds it. -/
theorem IsModel.toldAt {w : World} {B : MB} {S : Mst} (h : IsModel w B S) {o : Nat} (ho : o < S.told.length) :
    ∃ ta vc va, B.ta = some ⟨ta, 0, none⟩ ∧ ta < w.heap.size ∧ w.cell? ⟨ta, o, none⟩ = some (.slice va (S.told.getD o []).length vc) ∧ Own 161 2 callL 0 w (.slice va (S.told.getD o []).length vc) (S.told.getD o []) := by
  have hk : o < B.tk.length := by rw [h.told.len]; exact ho
  obtain ⟨ta, mo, hme, hta, hm0⟩ := (h.told.own.sl0 (fun _ => rfl)).at1 hk rfl
  have e0 : B.ta = some ⟨ta, 0, none⟩ := by
    rcases h.told.own.from0 with e | ⟨g, e⟩
    · rw [e] at hme; cases hme
    · rw [e] at hme ⊢
      injection hme with e1
      injection e1 with e1 e2
      rw [e1]
  have e1 : mo = 0 := by
    rw [e0] at hme
    injection hme with e1
    injection e1 with _ e2
    exact e2.symm
  subst e1
  rw [Nat.mul_one, Nat.zero_add] at hm0
  have hown := (h.told.at' o hk ho).1
  have hg : S.told.getD o [] = S.told[o] := by simp [ho]
  rw [hg]
  generalize B.tk[o] = s at *
  obtain ⟨va, vn, vc⟩ := s
  obtain ⟨a2, c2, e, _⟩ := hown.sl fun _ => rfl
  injection e with _ e2 _
  subst e2
  exact ⟨ta, vc, va, e0, hta, hm0, hown⟩
/-- A round of the marks: what stays. -/
structure TwR (tp mb o n cap bm gc : Nat) (s t : Int) (W : World) : Prop where
  c : W.cell? ⟨tp, 13, none⟩ = some (.slice (some ⟨mb, 0, none⟩) n cap)
  p : W.cell? ⟨mb, o, none⟩ = some (.pointer (some ⟨bm, 0, none⟩))
  x : W.heap[gc]? = some (.cells #[.int .i64 s, .int .i64 t] 161 (0, 0))
theorem step_store_mid {P : Program} {w : World} {ops : Array Oper} {op : Oper} {a : Act} {K : Act → World → Prop} {Q : Exit → Act → World → Prop} {E : Prop} (hgd : op.guard = none) (ty : TypeId) (x y : Operand) (ho : op.op = .store ty x y)
    (b o : Nat) (cells : Array Value) (hx : a.eval x = .pointer (some ⟨b, o, none⟩)) (hy : a.eval y = .agg cells) (ht : w.there b o cells.size) (hi : (P.info? ty).map (·.size) = some cells.size) (h1 : cells.all (·.oneCell') = true)
    (h : K (a.put op.dst undef) (w.setCells b o cells.toList)) : if Region.wanted op (yielded ops a.tmps) = true then Oper.wp P op a w K Q else E := by
  have hw : Region.wanted op (yielded ops a.tmps) = true := by simp [Region.wanted, hgd]
  rw [if_pos hw]
  exact wp_store_mid ty x y ho b o cells hx hy ht hi h1 h
theorem there_blk {w : World} {g o n : Nat} {cs : Array Value} {t : TypeId} (h : w.heap[g]? = some (.cells cs t (0, 0))) (hl : o + n ≤ cs.size) : w.there g o n := fun j hj => by
  refine ⟨?_, frozen_blk h _⟩
  rw [cell_blk h, Array.getElem?_eq_getElem (by omega)]
  rfl
theorem take_set_succ' (cs : List Value) (o : Nat) (v : Value) (h : o < cs.length) : (cs.set o v).take (o + 1) = cs.take o ++ [v] := by
  rw [List.take_add_one, List.getElem?_eq_getElem (by simpa using h)]
  have e : (cs.set o v).take o = cs.take o := by
    apply List.ext_getElem?
    intro i
    rw [List.getElem?_take, List.getElem?_take]
    split
    · rw [List.getElem?_set_ne (by omega)]
    · rfl
  rw [e]
  simp
theorem cells_blk {g : Nat} {t : TypeId} {fr : Nat × Nat} : ∀ (vs : List Value) (o : Nat) (w : World) (cs : List Value), w.heap[g]? = some (.cells cs.toArray t fr) → o + vs.length ≤ cs.length →
    (w.setCells g o vs).heap[g]? = some (.cells (cs.take o ++ vs ++ cs.drop (o + vs.length)).toArray t fr)
  | [], o, w, cs, h, _ => by
    rw [World.setCells]
    simpa using h
  | v :: r, o, w, cs, h, hl => by
    rw [World.setCells]
    have hlt : o < cs.length := by simp at hl; omega
    have h1 := set_obj h o v
    rw [show cs.toArray.setIfInBounds o v = (cs.set o v).toArray by simp] at h1
    have h2 := cells_blk r (o + 1) _ (cs.set o v) h1 (by simp at hl ⊢; omega)
    rw [take_set_succ' cs o v hlt, List.drop_set_of_lt (by omega)] at h2
    rw [h2]
    simp [Nat.add_assoc, Nat.add_comm 1]
end Go.Proofs.YtaicecnfodhlcaaGreat
/- Twin. -/
set_option linter.unusedVariables false
set_option linter.unusedSimpArgs false
namespace Go.Proofs.YtaicecnfodhlcaaGreat
open Go.RowKit Go.Deep

theorem sclone_any (b : Nat) (p : Int → Bool) (w : World) (h : HasSet w b p) :
    Calls Tryz.prog 88 #[.map (some b)] w fun e w' => e = .returned (.map (some w.heap.size)) ∧ HasSet w' w.heap.size p ∧ Below w.heap.size w w' ∧ w.heap.size < w'.heap.size := by
  obtain ⟨m, hm, h1, h3⟩ := h
  obtain ⟨hn, es, clock, hb, h2⟩ := hm
  have hc := AnyW.maps_Clone Tryz.cloneSet b es clock w hb
  change Calls Tryz.prog 88 _ _ _ at hc
  refine hc.mono ?_
  rintro e w' ⟨rfl, rfl⟩
  exact ⟨rfl, ⟨m, ⟨hn, es, clock, blk_at rfl, h2⟩, h1, h3⟩, (Below.refl _ _).alloc (Nat.le_refl _) _, by simp⟩
theorem cells1_call : Cells1 callL := fun x u hu => by simp at hu; rcases hu with rfl | rfl <;> rfl
theorem cclone_any (a : Option Addr) (cap : Nat) (xs : List (Int × Int)) (w : World) (ho : Own 161 2 callL 0 w (.slice a xs.length cap) xs) (hl : xs.length ≤ 1000000000) :
    Calls Tryz.prog 90 #[.slice a xs.length cap] w fun e w' => ∃ v, e = .returned v ∧ Own 161 2 callL w.heap.size w' v xs ∧ Below w.heap.size w w' := by
  have hs := ho.sl0 fun _ => rfl
  rcases ho.from0 with rfl | ⟨g, rfl⟩
  · cases xs with
    | nil =>
      have h := AnyE.slices_Clone_nil Tryz.cloneCalls 0 cap w
      change Calls Tryz.prog 90 _ _ _ at h
      refine h.mono ?_
      rintro e w' ⟨rfl, rfl⟩
      exact ⟨_, rfl, Own.nil _ _ _ _ _, Below.refl _ _⟩
    | cons x t =>
      obtain ⟨b, off, e, _⟩ := hs 0 (by simp)
      cases e
  · obtain ⟨ht, hp, i, z, hi, hz0, hsize, hbytes, hzs⟩ := st_call
    have h := AnyE.slices_Clone Tryz.cloneCalls i z 2 16 hi hz0 hsize hbytes hzs (by decide) (fun w => by kernel_rfl) g 0 xs.length cap (xs.flatMap callL) w (flat_length (enc := callL) (sz := 2) (fun _ => rfl) xs) (by unfold maxLen; omega) (by omega)
      (fun j u hu => by have := Sl.flat (sz := 2) (fun _ => rfl) hs j u hu; rw [add_none] at this; exact this) (fun u hu => by obtain ⟨y, _, hy⟩ := List.mem_flatMap.1 hu; exact cells1_call y u hy)
    change Calls Tryz.prog 90 _ _ _ at h
    exact h.mono fun e w' ⟨v, he, ho, _, hb⟩ => ⟨v, he, ho, hb⟩
set_option maxRecDepth 100000 in
set_option maxHeartbeats 40000000 in
theorem twin_any {w : World} {B : MB} {S : Mst} (h : IsModel w B S) (hr : S.cfg.right = true) (hlen : ∀ l ∈ S.told, l.length ≤ 100000000) :
    Calls Tryz.prog 33 #[.pointer (some ⟨B.mp, 0, none⟩)] w fun e w' => ∃ B', e = .returned (.pointer (some ⟨B'.mp, 0, none⟩)) ∧ IsModel w' B' S ∧ Below w.heap.size w w' ∧ ∀ g, B'.lab g ≠ .no → w.heap.size ≤ g := by
  have hobj : w.heap[B.mp]? = some (.cells #[.slice B.av S.cfg.vs.length B.vcap, .int .i64 S.cfg.so, .int .i64 S.cfg.op, .int .i64 S.cfg.sh, .int .i64 S.cfg.sl, .int .i64 S.cfg.bx, .int .i64 S.cfg.ad, .int .i64 S.cfg.pi, .int .i64 S.cfg.ch, .int .i64 S.cfg.fr, .int .i64 S.cfg.inn, .int .i64 S.cfg.out, .map (some B.bt), .slice B.ma S.ms.length B.mcap, .slice B.ta S.told.length B.tcap, .int .i64 S.now, .map (some B.bs), .map (some B.bh), .int .i64 S.cnt.t, .int .i64 S.cnt.l, .int .i64 S.cnt.o, .int .i64 S.cnt.f, .int .i64 0, .int .i64 0] 102 (0, 0)) := h.obj.obj
  have hnew := mnew_ok S.cfg B.av B.vcap w (h.views.own.sl0 fun _ => rfl) (by have := h.inv.cfg.vhi; omega) hr
  have c0 := cell_blk hobj 0
  have c1 := cell_blk hobj 1
  have c2 := cell_blk hobj 2
  have c3 := cell_blk hobj 3
  have c4 := cell_blk hobj 4
  have c5 := cell_blk hobj 5
  have c6 := cell_blk hobj 6
  have c7 := cell_blk hobj 7
  have c8 := cell_blk hobj 8
  have c9 := cell_blk hobj 9
  have c10 := cell_blk hobj 10
  have c11 := cell_blk hobj 11
  simp at c0 c1 c2 c3 c4 c5 c6 c7 c8 c9 c10 c11
  have Hh := Lib.hid h
  have Hobj := Lib.hid hobj
  have Hlen := Lib.hid hlen
  clear h hr hobj hlen
  go_enter Tryz.func33, Tryz.ntmps33
  go_wp2_with fail
  refine hnew.mono ?_
  rintro e w1 ⟨B0, rfl, hM0, hb1, hlow⟩
  have ht0 : Twn w w1 B0 (Mst.new S.cfg) := ⟨hM0.parts, hlow, hb1⟩
  have HT0 := Lib.hid ht0
  clear hnew ht0 hM0 hb1 hlow c0 c1 c2 c3 c4 c5 c6 c7 c8 c9 c10 c11
  go_upto_region 2 with fail
  go_cut [] from 21 to 42 (fun wx => ∃ B1, Twn w wx B1 ((Mst.new S.cfg).based S.L S.now S.cnt) ∧ B1.mp = B0.mp)
  case first =>
    have HMo : ∀ W', Below w.heap.size w W' → W'.heap[B.mp]? = some (.cells #[.slice B.av S.cfg.vs.length B.vcap, .int .i64 S.cfg.so, .int .i64 S.cfg.op, .int .i64 S.cfg.sh, .int .i64 S.cfg.sl, .int .i64 S.cfg.bx, .int .i64 S.cfg.ad, .int .i64 S.cfg.pi, .int .i64 S.cfg.ch, .int .i64 S.cfg.fr, .int .i64 S.cfg.inn, .int .i64 S.cfg.out, .map (some B.bt), .slice B.ma S.ms.length B.mcap, .slice B.ta S.told.length B.tcap, .int .i64 S.now, .map (some B.bs), .map (some B.bh), .int .i64 S.cnt.t, .int .i64 S.cnt.l, .int .i64 S.cnt.o, .int .i64 S.cnt.f, .int .i64 0, .int .i64 0] 102 (0, 0)) := fun W' hW => (hW.block _ (lt_of_block Hobj.out)).trans Hobj.out
    have hd0 : Below w.heap.size w w1.drew := HT0.out.below.drew
    have k0 := HMo _ hd0
    have hm0 := Hh.out.there.map.keep (w' := w1.drew) (hd0.block _ Hh.out.there.map.lt)
    have hcl := mclone_any B.bt S.L w1.drew hm0
    have Hd0 := Lib.hid hd0
    have HMoH := Lib.hid HMo
    clear hd0 hm0 HMo
    refine wp_region_held_drew (S := fun W => W.heap[B.mp]? = some (.cells #[.slice B.av S.cfg.vs.length B.vcap, .int .i64 S.cfg.so, .int .i64 S.cfg.op, .int .i64 S.cfg.sh, .int .i64 S.cfg.sl, .int .i64 S.cfg.bx, .int .i64 S.cfg.ad, .int .i64 S.cfg.pi, .int .i64 S.cfg.ch, .int .i64 S.cfg.fr, .int .i64 S.cfg.inn, .int .i64 S.cfg.out, .map (some B.bt), .slice B.ma S.ms.length B.mcap, .slice B.ta S.told.length B.tcap, .int .i64 S.now, .map (some B.bs), .map (some B.bh), .int .i64 S.cnt.t, .int .i64 S.cnt.l, .int .i64 S.cnt.o, .int .i64 S.cnt.f, .int .i64 0, .int .i64 0] 102 (0, 0))) (by kernel_rfl) k0 (fun hHeld => ?_)
    refine wpAnyH_takeD (i := 0) (oi := _) (d := 21) (v := ?va0) rfl (by kernel_rfl) (by kernel_rfl) (by kernel_rfl) (by kernel_rfl) (fun _ _ _ h => h) (Or.inl ⟨by kernel_rfl, ?ya0⟩) (by assumption) ?ra0
    case ya0 =>
      intro w' hSw
      try dsimp only at hSw
      go_simp
      try with_reducible rfl
    try simp only [Act.put, List.setIfInBounds_toArray, List.set_cons_zero, List.set_cons_succ]
    refine wpAnyH_takeD (i := 1) (oi := _) (d := 22) (v := ?va1) rfl (by kernel_rfl) (by kernel_rfl) (by kernel_rfl) (by kernel_rfl) (fun _ _ _ h => h) (Or.inl ⟨by kernel_rfl, ?ya1⟩) (by assumption) ?ra1
    case ya1 =>
      intro w' hSw
      try dsimp only at hSw
      go_simp
      try with_reducible rfl
    try simp only [Act.put, List.setIfInBounds_toArray, List.set_cons_zero, List.set_cons_succ]
    refine wpAnyH_takeD (i := 2) (oi := _) (d := 23) (v := ?va2) rfl (by kernel_rfl) (by kernel_rfl) (by kernel_rfl) (by kernel_rfl) (fun _ _ _ h => h) (Or.inl ⟨by kernel_rfl, ?ya2⟩) (by assumption) ?ra2
    case ya2 =>
      intro w' hSw
      try dsimp only at hSw
      go_simp
      try with_reducible rfl
    try simp only [Act.put, List.setIfInBounds_toArray, List.set_cons_zero, List.set_cons_succ]
    refine wpAnyH_takeD (i := 3) (oi := _) (d := 24) (v := ?va3) rfl (by kernel_rfl) (by kernel_rfl) (by kernel_rfl) (by kernel_rfl) (fun _ _ _ h => h) (Or.inl ⟨by kernel_rfl, ?ya3⟩) (by assumption) ?ra3
    case ya3 =>
      intro w' hSw
      try dsimp only at hSw
      go_simp
      try with_reducible rfl
    try simp only [Act.put, List.setIfInBounds_toArray, List.set_cons_zero, List.set_cons_succ]
    refine wpAnyH_takeD (i := 4) (oi := _) (d := 25) (v := ?va4) rfl (by kernel_rfl) (by kernel_rfl) (by kernel_rfl) (by kernel_rfl) (fun _ _ _ h => h) (Or.inl ⟨by kernel_rfl, ?ya4⟩) (by assumption) ?ra4
    case ya4 =>
      intro w' hSw
      try dsimp only at hSw
      go_simp
      try with_reducible rfl
    try simp only [Act.put, List.setIfInBounds_toArray, List.set_cons_zero, List.set_cons_succ]
    refine wpAnyH_takeD (i := 5) (oi := _) (d := 26) (v := ?va5) rfl (by kernel_rfl) (by kernel_rfl) (by kernel_rfl) (by kernel_rfl) (fun _ _ _ h => h) (Or.inl ⟨by kernel_rfl, ?ya5⟩) (by assumption) ?ra5
    case ya5 =>
      intro w' hSw
      try dsimp only at hSw
      go_simp
      try with_reducible rfl
    try simp only [Act.put, List.setIfInBounds_toArray, List.set_cons_zero, List.set_cons_succ]
    refine wpAnyH_takeD (i := 6) (oi := _) (d := 27) (v := ?va6) rfl (by kernel_rfl) (by kernel_rfl) (by kernel_rfl) (by kernel_rfl) (fun _ _ _ h => h) (Or.inl ⟨by kernel_rfl, ?ya6⟩) (by assumption) ?ra6
    case ya6 =>
      intro w' hSw
      have x12 := cell_blk hSw 12
      simp at x12
      go_simp
      try with_reducible rfl
    try simp only [Act.put, List.setIfInBounds_toArray, List.set_cons_zero, List.set_cons_succ]
    refine wpAnyH_takeD (i := 8) (oi := _) (d := 29) (v := ?va8) rfl (by kernel_rfl) (by kernel_rfl) (by kernel_rfl) (by kernel_rfl) (fun _ _ _ h => h) (Or.inl ⟨by kernel_rfl, ?ya8⟩) (by assumption) ?ra8
    case ya8 =>
      intro w' hSw
      try dsimp only at hSw
      go_simp
      try with_reducible rfl
    try simp only [Act.put, List.setIfInBounds_toArray, List.set_cons_zero, List.set_cons_succ]
    refine wpAnyH_takeD (i := 9) (oi := _) (d := 30) (v := ?va9) rfl (by kernel_rfl) (by kernel_rfl) (by kernel_rfl) (by kernel_rfl) (fun _ _ _ h => h) (Or.inl ⟨by kernel_rfl, ?ya9⟩) (by assumption) ?ra9
    case ya9 =>
      intro w' hSw
      try dsimp only at hSw
      go_simp
      try with_reducible rfl
    try simp only [Act.put, List.setIfInBounds_toArray, List.set_cons_zero, List.set_cons_succ]
    refine wpAnyH_takeD (i := 10) (oi := _) (d := 31) (v := ?va10) rfl (by kernel_rfl) (by kernel_rfl) (by kernel_rfl) (by kernel_rfl) (fun _ _ _ h => h) (Or.inl ⟨by kernel_rfl, ?ya10⟩) (by assumption) ?ra10
    case ya10 =>
      intro w' hSw
      try dsimp only at hSw
      go_simp
      try with_reducible rfl
    try simp only [Act.put, List.setIfInBounds_toArray, List.set_cons_zero, List.set_cons_succ]
    refine wpAnyH_takeD (i := 11) (oi := _) (d := 32) (v := ?va11) rfl (by kernel_rfl) (by kernel_rfl) (by kernel_rfl) (by kernel_rfl) (fun _ _ _ h => h) (Or.inl ⟨by kernel_rfl, ?ya11⟩) (by assumption) ?ra11
    case ya11 =>
      intro w' hSw
      have x15 := cell_blk hSw 15
      simp at x15
      go_simp
      try with_reducible rfl
    try simp only [Act.put, List.setIfInBounds_toArray, List.set_cons_zero, List.set_cons_succ]
    refine wpAnyH_takeD (i := 12) (oi := _) (d := 33) (v := ?va12) rfl (by kernel_rfl) (by kernel_rfl) (by kernel_rfl) (by kernel_rfl) (fun _ _ _ h => h) (Or.inl ⟨by kernel_rfl, ?ya12⟩) (by assumption) ?ra12
    case ya12 =>
      intro w' hSw
      try dsimp only at hSw
      go_simp
      try with_reducible rfl
    try simp only [Act.put, List.setIfInBounds_toArray, List.set_cons_zero, List.set_cons_succ]
    refine wpAnyH_takeD (i := 13) (oi := _) (d := 34) (v := ?va13) rfl (by kernel_rfl) (by kernel_rfl) (by kernel_rfl) (by kernel_rfl) (fun _ _ _ h => h) (Or.inl ⟨by kernel_rfl, ?ya13⟩) (by assumption) ?ra13
    case ya13 =>
      intro w' hSw
      try dsimp only at hSw
      go_simp
      try with_reducible rfl
    try simp only [Act.put, List.setIfInBounds_toArray, List.set_cons_zero, List.set_cons_succ]
    refine wpAnyH_takeD (i := 14) (oi := _) (d := 35) (v := ?va14) rfl (by kernel_rfl) (by kernel_rfl) (by kernel_rfl) (by kernel_rfl) (fun _ _ _ h => h) (Or.inl ⟨by kernel_rfl, ?ya14⟩) (by assumption) ?ra14
    case ya14 =>
      intro w' hSw
      try dsimp only at hSw
      go_simp
      try with_reducible rfl
    try simp only [Act.put, List.setIfInBounds_toArray, List.set_cons_zero, List.set_cons_succ]
    refine wpAnyH_takeD (i := 15) (oi := _) (d := 36) (v := ?va15) rfl (by kernel_rfl) (by kernel_rfl) (by kernel_rfl) (by kernel_rfl) (fun _ _ _ h => h) (Or.inl ⟨by kernel_rfl, ?ya15⟩) (by assumption) ?ra15
    case ya15 =>
      intro w' hSw
      have x18 := cell_blk hSw 18
      have x19 := cell_blk hSw 19
      have x20 := cell_blk hSw 20
      have x21 := cell_blk hSw 21
      have x22 := cell_blk hSw 22
      have x23 := cell_blk hSw 23
      simp at x18 x19 x20 x21 x22 x23
      go_simp
      try with_reducible rfl
    try simp only [Act.put, List.setIfInBounds_toArray, List.set_cons_zero, List.set_cons_succ]
    refine wpAnyH_ready (rs := [7]) (by kernel_rfl) (by simp) ?_
    refine AllReadyH.cons (o := _) rfl (fun K hK => ?_) AllReadyH.nil
    go_simp
    go_at_call 87
    refine hcl.mono ?_
    rintro e w2 ⟨rfl, hL2, hb2, hlt2⟩
    have hT2 := (HT0.out.keep (Below.refl _ _).drew).keep hb2
    have k2 := HMoH.out _ hT2.below
    have tob : w2.heap[B0.mp]? = some (.cells #[.slice B0.av S.cfg.vs.length B0.vcap, .int .i64 S.cfg.so, .int .i64 S.cfg.op, .int .i64 S.cfg.sh, .int .i64 S.cfg.sl, .int .i64 S.cfg.bx, .int .i64 S.cfg.ad, .int .i64 S.cfg.pi, .int .i64 S.cfg.ch, .int .i64 S.cfg.fr, .int .i64 S.cfg.inn, .int .i64 S.cfg.out, .map (some B0.bt), .slice B0.ma (Mst.new S.cfg).ms.length B0.mcap, .slice B0.ta (Mst.new S.cfg).told.length B0.tcap, .int .i64 1, .map (some B0.bs), .map (some B0.bh), .int .i64 0, .int .i64 0, .int .i64 0, .int .i64 0, .int .i64 0, .int .i64 0] 102 (0, 0)) := hT2.p.obj.obj
    have p12 := cell_blk tob 12
    have p15 := cell_blk tob 15
    simp at p12 p15
    have rf := frozen_blk tob
    have HL2 := Lib.hid hL2
    have HT2 := Lib.hid hT2
    have Htob := Lib.hid tob
    have Hlt2 := Lib.hid hlt2
    clear hT2 tob hL2 hlt2
    refine hK.out _ _ k2 (fun _ => ?_)
    clear hK K
    try simp only [Act.put, List.setIfInBounds_toArray, List.set_cons_zero, List.set_cons_succ]
    refine wpAnyH_takeD (i := 16) (oi := _) (d := 37) (v := ?va16) rfl (by kernel_rfl) (by kernel_rfl) (by kernel_rfl) (by kernel_rfl) (fun _ _ _ h => h) (Or.inl ⟨by kernel_rfl, ?ya16⟩) (by assumption) ?ra16
    case ya16 =>
      intro w' hSw
      try dsimp only at hSw
      go_simp
      try with_reducible rfl
    try simp only [Act.put, List.setIfInBounds_toArray, List.set_cons_zero, List.set_cons_succ]
    refine wpAnyH_takeD (i := 17) (oi := _) (d := 38) (v := ?va17) rfl (by kernel_rfl) (by kernel_rfl) (by kernel_rfl) (by kernel_rfl) (fun _ _ _ h => h) (Or.inl ⟨by kernel_rfl, ?ya17⟩) (by assumption) ?ra17
    case ya17 =>
      intro w' hSw
      try dsimp only at hSw
      go_simp
      try with_reducible rfl
    try simp only [Act.put, List.setIfInBounds_toArray, List.set_cons_zero, List.set_cons_succ]
    have hset : ∀ (W : World) (a : Addr) (v : Value), a.block = B0.mp → W.heap[B.mp]? = some (.cells #[.slice B.av S.cfg.vs.length B.vcap, .int .i64 S.cfg.so, .int .i64 S.cfg.op, .int .i64 S.cfg.sh, .int .i64 S.cfg.sl, .int .i64 S.cfg.bx, .int .i64 S.cfg.ad, .int .i64 S.cfg.pi, .int .i64 S.cfg.ch, .int .i64 S.cfg.fr, .int .i64 S.cfg.inn, .int .i64 S.cfg.out, .map (some B.bt), .slice B.ma S.ms.length B.mcap, .slice B.ta S.told.length B.tcap, .int .i64 S.now, .map (some B.bs), .map (some B.bh), .int .i64 S.cnt.t, .int .i64 S.cnt.l, .int .i64 S.cnt.o, .int .i64 S.cnt.f, .int .i64 0, .int .i64 0] 102 (0, 0)) → (W.setCell a v).heap[B.mp]? = some (.cells #[.slice B.av S.cfg.vs.length B.vcap, .int .i64 S.cfg.so, .int .i64 S.cfg.op, .int .i64 S.cfg.sh, .int .i64 S.cfg.sl, .int .i64 S.cfg.bx, .int .i64 S.cfg.ad, .int .i64 S.cfg.pi, .int .i64 S.cfg.ch, .int .i64 S.cfg.fr, .int .i64 S.cfg.inn, .int .i64 S.cfg.out, .map (some B.bt), .slice B.ma S.ms.length B.mcap, .slice B.ta S.told.length B.tcap, .int .i64 S.now, .map (some B.bs), .map (some B.bh), .int .i64 S.cnt.t, .int .i64 S.cnt.l, .int .i64 S.cnt.o, .int .i64 S.cnt.f, .int .i64 0, .int .i64 0] 102 (0, 0)) := fun W a v ha hW => (Below.heap_setCell _ _ _ _ (by rw [ha]; intro e; have h1 := HT0.out.low B0.mp (by rw [HT0.out.p.obj.lb]; simp); have h2 := lt_of_block Hobj.out; omega)).trans hW
    have k3 := hset _ ⟨B0.mp, 12, none⟩ (.map (some w1.heap.size)) rfl k2
    have k4 := hset _ ⟨B0.mp, 15, none⟩ (.int .i64 S.now) rfl k3
    have t3 : (w2.setCell ⟨B0.mp, 12, none⟩ (.map (some w1.heap.size))).heap[B0.mp]? = some (.cells #[.slice B0.av S.cfg.vs.length B0.vcap, .int .i64 S.cfg.so, .int .i64 S.cfg.op, .int .i64 S.cfg.sh, .int .i64 S.cfg.sl, .int .i64 S.cfg.bx, .int .i64 S.cfg.ad, .int .i64 S.cfg.pi, .int .i64 S.cfg.ch, .int .i64 S.cfg.fr, .int .i64 S.cfg.inn, .int .i64 S.cfg.out, .map (some w1.heap.size), .slice B0.ma (Mst.new S.cfg).ms.length B0.mcap, .slice B0.ta (Mst.new S.cfg).told.length B0.tcap, .int .i64 1, .map (some B0.bs), .map (some B0.bh), .int .i64 0, .int .i64 0, .int .i64 0, .int .i64 0, .int .i64 0, .int .i64 0] 102 (0, 0)) := set_obj Htob.out 12 _
    have t4 : ((w2.setCell ⟨B0.mp, 12, none⟩ (.map (some w1.heap.size))).setCell ⟨B0.mp, 15, none⟩ (.int .i64 S.now)).heap[B0.mp]? = some (.cells #[.slice B0.av S.cfg.vs.length B0.vcap, .int .i64 S.cfg.so, .int .i64 S.cfg.op, .int .i64 S.cfg.sh, .int .i64 S.cfg.sl, .int .i64 S.cfg.bx, .int .i64 S.cfg.ad, .int .i64 S.cfg.pi, .int .i64 S.cfg.ch, .int .i64 S.cfg.fr, .int .i64 S.cfg.inn, .int .i64 S.cfg.out, .map (some w1.heap.size), .slice B0.ma (Mst.new S.cfg).ms.length B0.mcap, .slice B0.ta (Mst.new S.cfg).told.length B0.tcap, .int .i64 S.now, .map (some B0.bs), .map (some B0.bh), .int .i64 0, .int .i64 0, .int .i64 0, .int .i64 0, .int .i64 0, .int .i64 0] 102 (0, 0)) := set_obj t3 15 _
    have hth : ((w2.setCell ⟨B0.mp, 12, none⟩ (.map (some w1.heap.size))).setCell ⟨B0.mp, 15, none⟩ (.int .i64 S.now)).there B0.mp 18 6 := there_blk t4 (Nat.le_refl 24)
    have t5 : (((w2.setCell ⟨B0.mp, 12, none⟩ (.map (some w1.heap.size))).setCell ⟨B0.mp, 15, none⟩ (.int .i64 S.now)).setCells B0.mp 18 [.int .i64 S.cnt.t, .int .i64 S.cnt.l, .int .i64 S.cnt.o, .int .i64 S.cnt.f, .int .i64 0, .int .i64 0]).heap[B0.mp]? = some (.cells #[.slice B0.av S.cfg.vs.length B0.vcap, .int .i64 S.cfg.so, .int .i64 S.cfg.op, .int .i64 S.cfg.sh, .int .i64 S.cfg.sl, .int .i64 S.cfg.bx, .int .i64 S.cfg.ad, .int .i64 S.cfg.pi, .int .i64 S.cfg.ch, .int .i64 S.cfg.fr, .int .i64 S.cfg.inn, .int .i64 S.cfg.out, .map (some w1.heap.size), .slice B0.ma (Mst.new S.cfg).ms.length B0.mcap, .slice B0.ta (Mst.new S.cfg).told.length B0.tcap, .int .i64 S.now, .map (some B0.bs), .map (some B0.bh), .int .i64 S.cnt.t, .int .i64 S.cnt.l, .int .i64 S.cnt.o, .int .i64 S.cnt.f, .int .i64 0, .int .i64 0] 102 (0, 0)) := cells_blk _ 18 _ _ t4 (Nat.le_refl 24)
    have hcF : Chg [B0.mp] w2 (((w2.setCell ⟨B0.mp, 12, none⟩ (.map (some w1.heap.size))).setCell ⟨B0.mp, 15, none⟩ (.int .i64 S.now)).setCells B0.mp 18 [.int .i64 S.cnt.t, .int .i64 S.cnt.l, .int .i64 S.cnt.o, .int .i64 S.cnt.f, .int .i64 0, .int .i64 0]) := ((Chg.set w2 (a := ⟨B0.mp, 12, none⟩) (by simp) _).trans (Chg.set _ (a := ⟨B0.mp, 15, none⟩) (by simp) _)).trans (chg_setCells _ _ _ _)
    have k5 : (((w2.setCell ⟨B0.mp, 12, none⟩ (.map (some w1.heap.size))).setCell ⟨B0.mp, 15, none⟩ (.int .i64 S.now)).setCells B0.mp 18 [.int .i64 S.cnt.t, .int .i64 S.cnt.l, .int .i64 S.cnt.o, .int .i64 S.cnt.f, .int .i64 0, .int .i64 0]).heap[B.mp]? = some (.cells #[.slice B.av S.cfg.vs.length B.vcap, .int .i64 S.cfg.so, .int .i64 S.cfg.op, .int .i64 S.cfg.sh, .int .i64 S.cfg.sl, .int .i64 S.cfg.bx, .int .i64 S.cfg.ad, .int .i64 S.cfg.pi, .int .i64 S.cfg.ch, .int .i64 S.cfg.fr, .int .i64 S.cfg.inn, .int .i64 S.cfg.out, .map (some B.bt), .slice B.ma S.ms.length B.mcap, .slice B.ta S.told.length B.tcap, .int .i64 S.now, .map (some B.bs), .map (some B.bh), .int .i64 S.cnt.t, .int .i64 S.cnt.l, .int .i64 S.cnt.o, .int .i64 S.cnt.f, .int .i64 0, .int .i64 0] 102 (0, 0)) := (hcF.block _ (lt_of_block k2) (by simp; intro e; have h1 := HT0.out.low B0.mp (by rw [HT0.out.p.obj.lb]; simp); have h2 := lt_of_block Hobj.out; omega)).trans k2
    have hno0 : B0.lab w1.heap.size = .no := HT0.out.away (Nat.le_refl _)
    have hfin : Twn w (((w2.setCell ⟨B0.mp, 12, none⟩ (.map (some w1.heap.size))).setCell ⟨B0.mp, 15, none⟩ (.int .i64 S.now)).setCells B0.mp 18 [.int .i64 S.cnt.t, .int .i64 S.cnt.l, .int .i64 S.cnt.o, .int .i64 S.cnt.f, .int .i64 0, .int .i64 0]) (B0.there' w1.heap.size) ((Mst.new S.cfg).based S.L S.now S.cnt) := HT2.out.based S.L S.now S.cnt w1.heap.size HL2.out hno0 HT0.out.below.size hcF (HT2.out.p.based S.L S.now S.cnt w1.heap.size HL2.out hno0 hcF t5)
    have Hfin := Lib.hid hfin
    have Hth := Lib.hid hth
    have Hk5 := Lib.hid k5
    clear hset t5 hcF hfin hth hno0 k5
    refine wpAnyH_ready (rs := [18]) (by kernel_rfl) (by simp) ?_
    refine AllReadyH.cons (o := _) rfl (fun K hK => ?_) AllReadyH.nil
    go_simp
    refine hK.out _ _ k3 (fun _ => ?_)
    clear hK K
    try simp only [Act.put, List.setIfInBounds_toArray, List.set_cons_zero, List.set_cons_succ]
    refine wpAnyH_takeD (i := 19) (oi := _) (d := 39) (v := ?va19) rfl (by kernel_rfl) (by kernel_rfl) (by kernel_rfl) (by kernel_rfl) (fun _ _ _ h => h) (Or.inl ⟨by kernel_rfl, ?ya19⟩) (by assumption) ?ra19
    case ya19 =>
      intro w' hSw
      try dsimp only at hSw
      go_simp
      try with_reducible rfl
    try simp only [Act.put, List.setIfInBounds_toArray, List.set_cons_zero, List.set_cons_succ]
    refine wpAnyH_takeD (i := 20) (oi := _) (d := 40) (v := ?va20) rfl (by kernel_rfl) (by kernel_rfl) (by kernel_rfl) (by kernel_rfl) (fun _ _ _ h => h) (Or.inl ⟨by kernel_rfl, ?ya20⟩) (by assumption) ?ra20
    case ya20 =>
      intro w' hSw
      try dsimp only at hSw
      go_simp
      try with_reducible rfl
    try simp only [Act.put, List.setIfInBounds_toArray, List.set_cons_zero, List.set_cons_succ]
    have p15b := cell_blk t3 15
    simp at p15b
    have rf3 := frozen_blk t3
    refine wpAnyH_ready (rs := [21]) (by kernel_rfl) (by simp) ?_
    refine AllReadyH.cons (o := _) rfl (fun K hK => ?_) AllReadyH.nil
    go_simp
    refine hK.out _ _ k4 (fun _ => ?_)
    clear hK K
    try simp only [Act.put, List.setIfInBounds_toArray, List.set_cons_zero, List.set_cons_succ]
    refine wpAnyH_takeD (i := 22) (oi := _) (d := 41) (v := ?va22) rfl (by kernel_rfl) (by kernel_rfl) (by kernel_rfl) (by kernel_rfl) (fun _ _ _ h => h) (Or.inl ⟨by kernel_rfl, ?ya22⟩) (by assumption) ?ra22
    case ya22 =>
      intro w' hSw
      try dsimp only at hSw
      go_simp
      try with_reducible rfl
    try simp only [Act.put, List.setIfInBounds_toArray, List.set_cons_zero, List.set_cons_succ]
    refine wpAnyH_takeD (i := 23) (oi := _) (d := 42) (v := ?va23) rfl (by kernel_rfl) (by kernel_rfl) (by kernel_rfl) (by kernel_rfl) (fun _ _ _ h => h) (Or.inl ⟨by kernel_rfl, ?ya23⟩) (by assumption) ?ra23
    case ya23 =>
      intro w' hSw
      try dsimp only at hSw
      go_simp
      try with_reducible rfl
    try simp only [Act.put, List.setIfInBounds_toArray, List.set_cons_zero, List.set_cons_succ]
    refine wpAnyH_ready (rs := [24]) (by kernel_rfl) (by simp) ?_
    refine AllReadyH.cons (o := _) rfl (fun K hK => ?_) AllReadyH.nil
    refine step_store_mid (by rfl) 46 _ _ rfl B0.mp 18 #[.int .i64 S.cnt.t, .int .i64 S.cnt.l, .int .i64 S.cnt.o, .int .i64 S.cnt.f, .int .i64 0, .int .i64 0] rfl rfl Hth.out (by kernel_rfl) (by kernel_rfl) ?_
    refine hK.out _ _ Hk5.out (fun _ => ?_)
    clear hK K
    try simp only [Act.put, List.setIfInBounds_toArray, List.set_cons_zero, List.set_cons_succ]
    refine wpAnyH_done (by kernel_rfl) ?_ _
    go_wp2_with fail
    go_meet
    exact ⟨_, Hfin.out, rfl⟩

  case rest =>
    obtain ⟨B1, hT1, hmp1⟩ := hcut
    obtain ⟨hlbS, mS, hmS, hS1, hS2⟩ := Hh.out.seals
    have hmc : MapIs intV wc B.bs mS := hmS.keep (hT1.below.block _ hmS.lt)
    have c16 := cell_blk ((hT1.below.block _ (lt_of_block Hobj.out)).trans Hobj.out) 16
    simp at c16
    have HT1 := Lib.hid hT1
    have HlS := Lib.hid hmS.lt
    have HS1 := Lib.hid hS1
    have HS2 := Lib.hid hS2
    clear hT1 hmS hS1 hS2 hlbS HT0
    generalize B0.mp = tp at *
    go_upto_block 0 with (at_range; refine wpList_rangeM rfl _ rfl Tryz.underlying97 B.bs mS rfl hmc ?_; intro w2 hrg hg2 hs2)
    simp only [Act.put, List.setIfInBounds_toArray, List.set_cons_zero, List.set_cons_succ]
    have hT2 : Twn w w2 B1 ((Mst.new S.cfg).based S.L S.now S.cnt) := HT1.out.keep ((Below.refl _ _).grown hg2 (Nat.le_refl _) (fun k hk => by cases hk))
    have hno2 : B1.lab wc.heap.size = .no := HT1.out.away (Nat.le_refl _)
    have Hit := Lib.hid HT1.out.below.size
    have HT2 := Lib.hid hT2
    clear hT2 HT1 hg2 hs2 hmc c16
    generalize wc.heap.size = it at *
    go_cut [] from 48 to 59 (fun wx => ∃ B2, Twn w wx B2 (twS S []) ∧ B2.mp = tp)
    case first =>
      go_wp2_with fail
      go_loopg [5, 6] mS.length (fun g s5 s6 wr => ∃ (left : List (Int × Value)) (B2 : MB), g = left.length ∧ Ranging intV wr B.bs it mS left ∧ Twn w wr B2 (twS S left) ∧ B2.mp = tp ∧ B2.lab it = .no)
      case atStart => exact ⟨mS, B1, rfl, hrg, by rw [← twS_start (S := S) (m := mS) fun e L he => List.mem_map.2 ⟨_, (HS1.out e L he).1, rfl⟩]; exact HT2.out, hmp1, hno2⟩
      case round =>
        obtain ⟨left, B2, hg, hrg3, hT, hmp, hno⟩ := hrel
        have Hg := Lib.hid hg
        have HT := Lib.hid hT
        clear hg hT hrg HT2
        go_wp2_with (at_next; refine wpList_nextM rfl _ rfl B.bs it mS left rfl hrg3 ?_ ?_)
        · intro hl0
          rw [hl0] at HT
          go_wp2_with fail
          go_meet
          exact ⟨B2, HT.out, hmp⟩
        · intro e v w3 hp hrg4 hg3 hs3 hent
          replace hrg4 : Ranging intV w3 B.bs it mS (left.filter fun q => decide (q.1 ≠ e)) := by simpa using hrg4
          have hpm : (e, v) ∈ mS := hrg3.sub.subset hp
          obtain ⟨L, hL, rfl, hLm⟩ : ∃ L, S.seals e = some L ∧ v = .map (some (B.sk e)) ∧ HasMap w (B.sk e) L := by
            cases hs : S.seals e with
            | none => exact absurd (List.mem_map.2 ⟨_, hpm, rfl⟩) (HS2.out e hs)
            | some L =>
              obtain ⟨a1, a2, _⟩ := HS1.out e L hs
              refine ⟨L, rfl, ?_, a2⟩
              have h1 := mGet_some hrg3.nd hpm
              rw [mGet_some hrg3.nd a1] at h1
              exact (Option.some.inj h1).symm
          have hle := left_less hp
          have hmemk : e ∈ left.map (·.1) := List.mem_map.2 ⟨_, hp, rfl⟩
          have hT3 := HT.out.chg (Chg.of_grown hg3) hno Hit.out
          have hd3 := hT3.keep (Below.refl w3.heap.size w3).drew
          have k0 : w3.drew.cell? ⟨tp, 16, none⟩ = some (.map (some B2.bs)) := by rw [← hmp]; exact hd3.p.obj.cells.2.2.2.2.2.2.2.2.1
          have hcl := mclone_any (B.sk e) L w3.drew (hLm.keep (hd3.below.block _ hLm.lt))
          have hitl := hrg4.lt.2
          have Hd3 := Lib.hid hd3
          have Hitl := Lib.hid hitl
          have HL := Lib.hid hL
          have Hrg4 := Lib.hid hrg4
          have Hle := Lib.hid hle
          have Hmk := Lib.hid hmemk
          have Hno := Lib.hid hno
          have Hmp := Lib.hid hmp
          clear hT3 hd3 hLm hL hle hmemk hpm hp hrg3 hrg4 hs3 hg3 hitl hno hmp HT
          go_upto_region 6 with fail
          refine wp_region_held_drew (S := fun W => W.cell? ⟨tp, 16, none⟩ = some (.map (some B2.bs))) (by kernel_rfl) k0 (fun hHeld => ?_)
          refine wpAnyH_takeD (i := 0) (oi := _) (d := 53) (v := ?vb160) rfl (by kernel_rfl) (by kernel_rfl) (by kernel_rfl) (by kernel_rfl) (fun _ _ _ h => h) (Or.inl ⟨by kernel_rfl, ?yb160⟩) (by assumption) ?rb160
          case yb160 =>
            intro w' hSw
            try dsimp only at hSw
            go_simp
            try with_reducible rfl
          try simp only [Act.put, List.setIfInBounds_toArray, List.set_cons_zero, List.set_cons_succ]
          refine wpAnyH_takeD (i := 1) (oi := _) (d := 54) (v := ?vb161) rfl (by kernel_rfl) (by kernel_rfl) (by kernel_rfl) (by kernel_rfl) (fun _ _ _ h => h) (Or.inl ⟨by kernel_rfl, ?yb161⟩) (by assumption) ?rb161
          case yb161 =>
            intro w' hSw
            try dsimp only at hSw
            go_simp
            try with_reducible rfl
          try simp only [Act.put, List.setIfInBounds_toArray, List.set_cons_zero, List.set_cons_succ]
          refine wpAnyH_takeD (i := 2) (oi := _) (d := 55) (v := ?vb162) rfl (by kernel_rfl) (by kernel_rfl) (by kernel_rfl) (by kernel_rfl) (fun _ _ _ h => h) (Or.inl ⟨by kernel_rfl, ?yb162⟩) (by assumption) ?rb162
          case yb162 =>
            intro w' hSw
            try dsimp only at hSw
            go_simp
            try with_reducible rfl
          try simp only [Act.put, List.setIfInBounds_toArray, List.set_cons_zero, List.set_cons_succ]
          refine wpAnyH_takeD (i := 3) (oi := _) (d := 56) (v := ?vb163) rfl (by kernel_rfl) (by kernel_rfl) (by kernel_rfl) (by kernel_rfl) (fun _ _ _ h => h) (Or.inl ⟨by kernel_rfl, ?yb163⟩) (by assumption) ?rb163
          case yb163 =>
            intro w' hSw
            try dsimp only at hSw
            go_simp
            try with_reducible rfl
          try simp only [Act.put, List.setIfInBounds_toArray, List.set_cons_zero, List.set_cons_succ]
          refine wpAnyH_takeD (i := 4) (oi := _) (d := 57) (v := ?vb164) rfl (by kernel_rfl) (by kernel_rfl) (by kernel_rfl) (by kernel_rfl) (fun _ _ _ h => h) (Or.inl ⟨by kernel_rfl, ?yb164⟩) (by assumption) ?rb164
          case yb164 =>
            intro w' hSw
            try dsimp only at hSw
            go_simp
            try with_reducible rfl
          try simp only [Act.put, List.setIfInBounds_toArray, List.set_cons_zero, List.set_cons_succ]
          refine wpAnyH_takeD (i := 5) (oi := _) (d := 58) (v := ?vb165) rfl (by kernel_rfl) (by kernel_rfl) (by kernel_rfl) (by kernel_rfl) (fun _ _ _ h => h) (Or.inl ⟨by kernel_rfl, ?yb165⟩) (by assumption) ?rb165
          case yb165 =>
            intro w' hSw
            try dsimp only at hSw
            go_simp
            try with_reducible rfl
          try simp only [Act.put, List.setIfInBounds_toArray, List.set_cons_zero, List.set_cons_succ]
          refine wpAnyH_ready (rs := [6]) (by kernel_rfl) (by simp) ?_
          refine AllReadyH.cons (o := _) rfl (fun K hK => ?_) AllReadyH.nil
          go_simp
          go_at_call 87
          refine hcl.mono ?_
          rintro e1 w4 ⟨rfl, hL4, hb4, hlt4⟩
          have hT4 := Hd3.out.keep hb4
          have hnb : B2.lab w3.heap.size = .no := Hd3.out.away (Nat.le_refl _)
          have k4 : w4.cell? ⟨tp, 16, none⟩ = some (.map (some B2.bs)) := by rw [← Hmp.out]; exact hT4.p.obj.cells.2.2.2.2.2.2.2.2.1
          obtain ⟨w5, hr5, hP5, hT5⟩ := hT4.p.keptAt e L w3.heap.size hL4 hnb (if_pos Hmk.out) hb4 (Nat.le_refl _)
          rw [twS_step HL.out] at hP5
          have hT5' := Hd3.out.turn hP5 hT5
          have k5 : w5.cell? ⟨tp, 16, none⟩ = some (.map (some B2.bs)) := by rw [← Hmp.out]; exact hT5'.p.obj.cells.2.2.2.2.2.2.2.2.1
          have hkp : ∀ g, B2.lab g = .no → g < w3.heap.size → w5.heap[g]? = w3.heap[g]? := fun g hg hl => hT5.chg.block g hl (fun h => h hg)
          have hbs : B2.lab B.bs = .no := Hd3.out.old HlS.out
          have hfin : Ranging intV w5 B.bs it mS (left.filter fun q => decide (q.1 ≠ e)) ∧ Twn w w5 (B2.kept e w3.heap.size) (twS S (left.filter fun q => decide (q.1 ≠ e))) ∧ (B2.kept e w3.heap.size).mp = tp ∧ (B2.kept e w3.heap.size).lab it = .no := ⟨Hrg4.out.keep (hkp _ hbs Hrg4.out.lt.1) (hkp _ Hno.out Hitl.out), hT5', Hmp.out, by show (if it = w3.heap.size then Lbl.epo e else B2.lab it) = .no; rw [if_neg (by have := Hitl.out; omega)]; exact Hno.out⟩
          have Hfin := Lib.hid hfin
          clear hT4 hnb hP5 hT5 hT5' hkp hbs hfin hL4 hb4 hlt4
          refine hK.out _ _ k4 (fun _ => ?_)
          clear hK K
          try simp only [Act.put, List.setIfInBounds_toArray, List.set_cons_zero, List.set_cons_succ]
          refine wpAnyH_ready (rs := [7]) (by kernel_rfl) (by simp) ?_
          refine AllReadyH.cons (o := _) rfl (fun K hK => ?_) AllReadyH.nil
          go_simp
          refine hK.out _ _ k5 (fun _ => ?_)
          clear hK K
          try simp only [Act.put, List.setIfInBounds_toArray, List.set_cons_zero, List.set_cons_succ]
          refine wpAnyH_done (by kernel_rfl) ?_ _
          go_wp2_with fail
          go_roundg (left.filter fun q => decide (q.1 ≠ e)).length
          case measure => have h1 := Hg.out; have h2 := Hle.out; omega
          case rel => exact ⟨_, _, rfl, Hfin.out.1, Hfin.out.2.1, Hfin.out.2.2.1, Hfin.out.2.2.2⟩
    case rest =>
      obtain ⟨B3, hT3, hmp3⟩ := hcut
      obtain ⟨hlbH, mH, hmH, hH1, hH2⟩ := Hh.out.holds
      have hmc : MapIs intV wc B.bh mH := hmH.keep (hT3.below.block _ hmH.lt)
      have c17 := cell_blk ((hT3.below.block _ (lt_of_block Hobj.out)).trans Hobj.out) 17
      simp at c17
      have HT3 := Lib.hid hT3
      have HlH := Lib.hid hmH.lt
      have HH1 := Lib.hid hH1
      have HH2 := Lib.hid hH2
      clear hT3 hmH hH1 hH2 hlbH HT2 HS1 HS2 HlS Hit hrg hno2 hmp1
      go_upto_block 2 with (at_range; refine wpList_rangeM rfl _ rfl Tryz.underlying98 B.bh mH rfl hmc ?_; intro w4 hrg hg2 hs2)
      simp only [Act.put, List.setIfInBounds_toArray, List.set_cons_zero, List.set_cons_succ]
      have hT4 : Twn w w4 B3 (twS S []) := HT3.out.keep ((Below.refl _ _).grown hg2 (Nat.le_refl _) (fun k hk => by cases hk))
      have hno4 : B3.lab wc.heap.size = .no := HT3.out.away (Nat.le_refl _)
      have Hit := Lib.hid HT3.out.below.size
      have HT4 := Lib.hid hT4
      clear hT4 HT3 hg2 hs2 hmc c17
      generalize wc.heap.size = it at *
      go_cut [] from 65 to 76 (fun wx => ∃ B2, Twn w wx B2 (twH S []) ∧ B2.mp = tp)
      case first =>
        go_wp2_with fail
        go_loopg [7, 8] mH.length (fun g s7 s8 wr => ∃ (left : List (Int × Value)) (B2 : MB), g = left.length ∧ Ranging intV wr B.bh it mH left ∧ Twn w wr B2 (twH S left) ∧ B2.mp = tp ∧ B2.lab it = .no)
        case atStart => exact ⟨mH, B3, rfl, hrg, by rw [← twH_start (S := S) (m := mH) fun s e he => by
            cases hs : B.hk s with
            | none => rw [(HH2.out s hs).2 e] at he; cases he
            | some b => exact List.mem_map.2 ⟨_, (HH1.out s b hs).1, rfl⟩]; exact HT4.out, hmp3, hno4⟩
        case round =>
          obtain ⟨left, B2, hg, hrg3, hT, hmp, hno⟩ := hrel
          have Hg := Lib.hid hg
          have HT := Lib.hid hT
          clear hg hT hrg HT4
          go_wp2_with (at_next; refine wpList_nextM rfl _ rfl B.bh it mH left rfl hrg3 ?_ ?_)
          · intro hl0
            rw [hl0] at HT
            go_wp2_with fail
            go_meet
            exact ⟨B2, HT.out, hmp⟩
          · intro s v w3 hp hrg4 hg3 hs3 hent
            replace hrg4 : Ranging intV w3 B.bh it mH (left.filter fun q => decide (q.1 ≠ s)) := by simpa using hrg4
            have hpm : (s, v) ∈ mH := hrg3.sub.subset hp
            obtain ⟨b, rfl, hLm⟩ : ∃ b, v = .map (some b) ∧ HasSet w b (S.holds s) := by
              cases hs : B.hk s with
              | none => exact absurd (List.mem_map.2 ⟨_, hpm, rfl⟩) (HH2.out s hs).1
              | some b =>
                obtain ⟨a1, a2, _⟩ := HH1.out s b hs
                refine ⟨b, ?_, a2⟩
                have h1 := mGet_some hrg3.nd hpm
                rw [mGet_some hrg3.nd a1] at h1
                exact (Option.some.inj h1).symm
            have hle := left_less hp
            have hT3 := HT.out.chg (Chg.of_grown hg3) hno Hit.out
            have hd3 := hT3.keep (Below.refl w3.heap.size w3).drew
            have k0 : w3.drew.cell? ⟨tp, 17, none⟩ = some (.map (some B2.bh)) := by rw [← hmp]; exact hd3.p.cell17
            have hcl := sclone_any b (S.holds s) w3.drew (hLm.keep (hd3.below.block _ hLm.lt))
            have hitl := hrg4.lt.2
            have Hd3 := Lib.hid hd3
            have Hitl := Lib.hid hitl
            have Hrg4 := Lib.hid hrg4
            have Hle := Lib.hid hle
            have Hno := Lib.hid hno
            have Hmp := Lib.hid hmp
            clear hT3 hd3 hLm hle hpm hp hrg3 hrg4 hs3 hg3 hitl hno hmp HT
            go_upto_region 10 with fail
            refine wp_region_held_drew (S := fun W => W.cell? ⟨tp, 17, none⟩ = some (.map (some B2.bh))) (by kernel_rfl) k0 (fun hHeld => ?_)
            refine wpAnyH_takeD (i := 0) (oi := _) (d := 70) (v := ?vb170) rfl (by kernel_rfl) (by kernel_rfl) (by kernel_rfl) (by kernel_rfl) (fun _ _ _ h => h) (Or.inl ⟨by kernel_rfl, ?yb170⟩) (by assumption) ?rb170
            case yb170 =>
              intro w' hSw
              try dsimp only at hSw
              go_simp
              try with_reducible rfl
            try simp only [Act.put, List.setIfInBounds_toArray, List.set_cons_zero, List.set_cons_succ]
            refine wpAnyH_takeD (i := 1) (oi := _) (d := 71) (v := ?vb171) rfl (by kernel_rfl) (by kernel_rfl) (by kernel_rfl) (by kernel_rfl) (fun _ _ _ h => h) (Or.inl ⟨by kernel_rfl, ?yb171⟩) (by assumption) ?rb171
            case yb171 =>
              intro w' hSw
              try dsimp only at hSw
              go_simp
              try with_reducible rfl
            try simp only [Act.put, List.setIfInBounds_toArray, List.set_cons_zero, List.set_cons_succ]
            refine wpAnyH_takeD (i := 2) (oi := _) (d := 72) (v := ?vb172) rfl (by kernel_rfl) (by kernel_rfl) (by kernel_rfl) (by kernel_rfl) (fun _ _ _ h => h) (Or.inl ⟨by kernel_rfl, ?yb172⟩) (by assumption) ?rb172
            case yb172 =>
              intro w' hSw
              try dsimp only at hSw
              go_simp
              try with_reducible rfl
            try simp only [Act.put, List.setIfInBounds_toArray, List.set_cons_zero, List.set_cons_succ]
            refine wpAnyH_takeD (i := 3) (oi := _) (d := 73) (v := ?vb173) rfl (by kernel_rfl) (by kernel_rfl) (by kernel_rfl) (by kernel_rfl) (fun _ _ _ h => h) (Or.inl ⟨by kernel_rfl, ?yb173⟩) (by assumption) ?rb173
            case yb173 =>
              intro w' hSw
              try dsimp only at hSw
              go_simp
              try with_reducible rfl
            try simp only [Act.put, List.setIfInBounds_toArray, List.set_cons_zero, List.set_cons_succ]
            refine wpAnyH_takeD (i := 4) (oi := _) (d := 74) (v := ?vb174) rfl (by kernel_rfl) (by kernel_rfl) (by kernel_rfl) (by kernel_rfl) (fun _ _ _ h => h) (Or.inl ⟨by kernel_rfl, ?yb174⟩) (by assumption) ?rb174
            case yb174 =>
              intro w' hSw
              try dsimp only at hSw
              go_simp
              try with_reducible rfl
            try simp only [Act.put, List.setIfInBounds_toArray, List.set_cons_zero, List.set_cons_succ]
            refine wpAnyH_takeD (i := 5) (oi := _) (d := 75) (v := ?vb175) rfl (by kernel_rfl) (by kernel_rfl) (by kernel_rfl) (by kernel_rfl) (fun _ _ _ h => h) (Or.inl ⟨by kernel_rfl, ?yb175⟩) (by assumption) ?rb175
            case yb175 =>
              intro w' hSw
              try dsimp only at hSw
              go_simp
              try with_reducible rfl
            try simp only [Act.put, List.setIfInBounds_toArray, List.set_cons_zero, List.set_cons_succ]
            refine wpAnyH_ready (rs := [6]) (by kernel_rfl) (by simp) ?_
            refine AllReadyH.cons (o := _) rfl (fun K hK => ?_) AllReadyH.nil
            go_simp
            go_at_call 88
            refine hcl.mono ?_
            rintro e1 w4 ⟨rfl, hL4, hb4, hlt4⟩
            have hT4 := Hd3.out.keep hb4
            have hnb : B2.lab w3.heap.size = .no := Hd3.out.away (Nat.le_refl _)
            have k4 : w4.cell? ⟨tp, 17, none⟩ = some (.map (some B2.bh)) := by rw [← Hmp.out]; exact hT4.p.cell17
            obtain ⟨w5, hr5, hP5, hT5⟩ := hT4.p.heldAt s (S.holds s) w3.heap.size hL4 hnb hb4 (Nat.le_refl _)
            rw [twH_step] at hP5
            have hT5' := Hd3.out.turn hP5 hT5
            have k5 : w5.cell? ⟨tp, 17, none⟩ = some (.map (some B2.bh)) := by rw [← Hmp.out]; exact hT5'.p.cell17
            have hkp : ∀ g, B2.lab g = .no → g < w3.heap.size → w5.heap[g]? = w3.heap[g]? := fun g hg hl => hT5.chg.block g hl (fun h => h hg)
            have hbs : B2.lab B.bh = .no := Hd3.out.old HlH.out
            have hfin : Ranging intV w5 B.bh it mH (left.filter fun q => decide (q.1 ≠ s)) ∧ Twn w w5 (B2.opened s w3.heap.size) (twH S (left.filter fun q => decide (q.1 ≠ s))) ∧ (B2.opened s w3.heap.size).mp = tp ∧ (B2.opened s w3.heap.size).lab it = .no := ⟨Hrg4.out.keep (hkp _ hbs Hrg4.out.lt.1) (hkp _ Hno.out Hitl.out), hT5', Hmp.out, by show (if it = w3.heap.size then Lbl.hold s else B2.lab it) = .no; rw [if_neg (by have := Hitl.out; omega)]; exact Hno.out⟩
            have Hfin := Lib.hid hfin
            clear hT4 hnb hP5 hT5 hT5' hkp hbs hfin hL4 hb4 hlt4
            refine hK.out _ _ k4 (fun _ => ?_)
            clear hK K
            try simp only [Act.put, List.setIfInBounds_toArray, List.set_cons_zero, List.set_cons_succ]
            refine wpAnyH_ready (rs := [7]) (by kernel_rfl) (by simp) ?_
            refine AllReadyH.cons (o := _) rfl (fun K hK => ?_) AllReadyH.nil
            go_simp
            refine hK.out _ _ k5 (fun _ => ?_)
            clear hK K
            try simp only [Act.put, List.setIfInBounds_toArray, List.set_cons_zero, List.set_cons_succ]
            refine wpAnyH_done (by kernel_rfl) ?_ _
            go_wp2_with fail
            go_roundg (left.filter fun q => decide (q.1 ≠ s)).length
            case measure => have h1 := Hg.out; have h2 := Hle.out; omega
            case rel => exact ⟨_, _, rfl, Hfin.out.1, Hfin.out.2.1, Hfin.out.2.2.1, Hfin.out.2.2.2⟩
      case rest =>
        obtain ⟨B4, hT4', hmp4⟩ := hcut
        rw [twH_end] at hT4'
        have hsl := Hh.out.inv.cfg.op
        have hml : 1 ≤ S.ms.length := by have := Hh.out.inv.msl; omega
        have Htl := Lib.hid Hh.out.inv.tdl
        have c14 := cell_blk ((hT4'.below.block _ (lt_of_block Hobj.out)).trans Hobj.out) 14
        simp at c14
        have HT4 := Lib.hid hT4'
        obtain ⟨ta0, _, _, hta0, htal, _, _⟩ := Hh.out.toldAt (o := 0) (by have := Htl.out; omega)
        rw [hta0] at c14
        have Hta0 := Lib.hid hta0
        clear hta0 hT4' HH1 HH2 HlH hrg hno4 hmp3 Hit
        go_upto_block 4 with fail
        go_cut [] from 82 to 114 (fun wx => ∃ (B2 : MB) (ms : List (List Int)) (td : List (List (Int × Int))), Twn w wx B2 (twT S ms td) ∧ B2.mp = tp ∧ Copd S S.told.length ms td)
        case first =>
          go_wp2_with fail
          go_loopg [9, 10, 12, 82] S.told.length (fun g s9 s10 s12 s82 wr => ∃ (o : Nat) (B2 : MB) (ms : List (List Int)) (td : List (List (Int × Int))), o + g = S.told.length ∧ s82 = .int .i64 o ∧ Twn w wr B2 (twT S ms td) ∧ B2.mp = tp ∧ Copd S o ms td)
          case atStart => exact ⟨0, B4, _, _, by omega, rfl, HT4.out, hmp4, Copd.start Hh.out.inv⟩
          case round =>
            obtain ⟨o, B2, ms, td, ho, rfl, hT, hmp, hcp⟩ := hrel
            have Ho := Lib.hid ho
            have HT := Lib.hid hT
            have Hcp := Lib.hid hcp
            have Hmp := Lib.hid hmp
            clear hT hcp ho hmp
            by_cases hlt : o < S.told.length
            · have hlti : (o : Int) < (S.told.length : Int) := by omega
              have ho8 : o < 8 := by have := Hh.out.inv.msl; have := Htl.out; omega
              obtain ⟨ta1, vc, va, hta1, htal, ht0, hown⟩ := Hh.out.toldAt hlt
              have e1 : ta1 = ta0 := by
                have h1 := hta1.symm.trans Hta0.out
                injection h1 with h1
                injection h1
              subst e1
              have t0 := (HT.out.below.cell (p := ⟨ta1, o, none⟩) htal).trans ht0
              have hlm : S.told.getD o [] ∈ S.told := by simp [hlt]
              have htok := Hh.out.inv.tok _ hlm
              have hln := Hlen.out _ hlm
              have hoo : o < ms.length ∧ o < td.length := ⟨by rw [Hcp.out.l1]; have := Htl.out; omega, by rw [Hcp.out.l2]; exact hlt⟩
              have htms := Hh.out.inv.tms o (by have := Htl.out; omega)
              obtain ⟨l, hl⟩ : ∃ l, S.told.getD o [] = l := ⟨_, rfl⟩
              rw [hl] at hown t0 htok hln htms
              obtain ⟨mb, hma⟩ := HT.out.maAt (by show 1 ≤ ms.length; omega)
              obtain ⟨ta2, hta2⟩ := HT.out.taAt (by show 1 ≤ td.length; omega)
              have Hl := Lib.hid hl
              have Hoo := Lib.hid hoo
              have Hown := Lib.hid hown
              have Htok := Lib.hid htok
              have Htms := Lib.hid htms
              have Hma := Lib.hid hma
              have Hta2 := Lib.hid hta2
              clear hta1 ht0 hlm htok hl hoo hown hma hta2 htms hml c14
              go_upto_block 6 with fail
              go_cut [12] from 83 to 114 (fun s12 wx => ∃ ms' : List (List Int), Twn w wx B2 (twT S ms' td) ∧ ms'.length = ms.length ∧ ms'.getD o [] = S.ms.getD o [] ∧ ∀ i, i ≠ o → ms'.getD i [] = ms.getD i [])
              case first =>
                go_wp2_with fail
                go_loopg [12, 89] l.length (fun g s12 s89 wq => ∃ (j : Nat) (ms' : List (List Int)), j + g = l.length ∧ s89 = .int .i64 j ∧ Twn w wq B2 (twT S ms' td) ∧ ms'.length = ms.length ∧ ms'.getD o [] = (l.take j).foldl riseL (List.replicate S.cfg.so.toNat noMark) ∧ ∀ i, i ≠ o → ms'.getD i [] = ms.getD i [])
                case atStart => exact ⟨0, ms, by omega, rfl, HT.out, rfl, Hcp.out.todo o (Nat.le_refl _) (by have := Htl.out; omega), fun _ _ => rfl⟩
                case round =>
                  obtain ⟨j, ms', hj, rfl, hT', hl', hg', hn'⟩ := hrel
                  have Hj := Lib.hid hj
                  have HT' := Lib.hid hT'
                  have Hl' := Lib.hid hl'
                  have Hg' := Lib.hid hg'
                  have Hn' := Lib.hid hn'
                  clear hT' hl' hg' hn' hj
                  by_cases hjl : j < l.length
                  · have hji : (j : Int) < (l.length : Int) := by omega
                    obtain ⟨vb, vo, hve, hvb, hvc⟩ := (Hown.out.sl0 fun _ => rfl) j hjl
                    have x0 := (HT'.out.below.cell (p := ⟨vb, _, none⟩) hvb).trans (hvc 0 _ rfl)
                    have x1 := (HT'.out.below.cell (p := ⟨vb, _, none⟩) hvb).trans (hvc 1 _ rfl)
                    simp only [Nat.add_zero] at x0
                    subst hve
                    have htk := Htok.out _ (List.getElem_mem hjl)
                    have htake : l.take (j + 1) = l.take j ++ [l[j]] := List.take_succ_eq_append_getElem hjl
                    rcases hx : l[j] with ⟨xs, xt⟩
                    rw [hx] at x0 x1 htk htake
                    dsimp only at x0 x1 htk
                    have Htk := Lib.hid htk
                    have Htake := Lib.hid htake
                    clear hvc htk htake hx
                    go_upto_region 17 with fail
                    generalize hWa : World.alloc wr _ = wa
                    have hba : Below wr.heap.size wr wa := by rw [← hWa]; exact (Below.refl _ _).alloc (Nat.le_refl _) _
                    have gx : wa.heap[wr.heap.size]? = some (.cells #[.int .i64 xs, .int .i64 xt] 161 (0, 0)) := by rw [← hWa]; exact blk_at rfl
                    have hgn : B2.lab wr.heap.size = .no := HT'.out.away (Nat.le_refl _)
                    obtain ⟨gc, hgc⟩ : ∃ gc, wr.heap.size = gc := ⟨_, rfl⟩
                    rw [hgc] at gx hgn
                    simp only [hgc]
                    have htd := (HT'.out.keep hba).keep (Below.refl wa.heap.size wa).drew
                    have hol : o < ms'.length := by rw [Hl'.out]; exact Hoo.out.1
                    obtain ⟨hc13, hok, hp, hIM⟩ := htd.marksAt Hma.out (o := o) hol
                    rw [Hmp.out] at hc13
                    have hlen' : ((ms'.getD o []).length : Int) = S.cfg.so := by
                      rw [Hg'.out, foldl_rise_len, List.length_replicate]
                      have := Hh.out.inv.cfg.so
                      omega
                    have hrs := rise_ok B2.mks[o].1 B2.mks[o].2 (ms'.getD o []) xs xt wa.drew hIM Htk.out.1 (by have := Htk.out.2.1; omega) Htk.out.2.2.1 Htk.out.2.2.2
                    have hbl : gc ≠ B2.mks[o].2 := fun e => by
                      have h9 := (htd.p.marks.at' o hok hol).2.2
                      rw [← e, hgn] at h9
                      cases h9
                    obtain ⟨bm, hbm⟩ : ∃ bm, B2.mks[o].1 = bm := ⟨_, rfl⟩
                    obtain ⟨n, hnn⟩ : ∃ n, ms'.length = n := ⟨_, rfl⟩
                    obtain ⟨cap, hcap⟩ : ∃ cap, B2.mcap = cap := ⟨_, rfl⟩
                    have hoi : (o : Int) < (n : Int) := by omega
                    have hon : o < n := by omega
                    have hc13' : wa.drew.cell? ⟨tp, 13, none⟩ = some (.slice (some ⟨mb, 0, none⟩) ms'.length B2.mcap) := hc13
                    rw [hnn, hcap] at hc13'
                    rw [hbm] at hp hrs
                    have k0 : TwR tp mb o n cap bm gc xs xt wa.drew := ⟨hc13', hp, gx⟩
                    have Hrs := Lib.hid hrs
                    have Htd := Lib.hid htd
                    have Hok := Lib.hid hok
                    have Hol := Lib.hid hol
                    have Hbl := Lib.hid hbl
                    have Hbm := Lib.hid hbm
                    have Hnc := Lib.hid (And.intro hnn hcap)
                    have Hgl := Lib.hid (lt_of_block gx)
                    clear hc13 hc13' hp hIM hrs htd hol hbl hbm hnn hcap gx hgn hlen' hba hWa x0 x1 t0
                    refine wp_region_held_drew (S := TwR tp mb o n cap bm gc xs xt) (by kernel_rfl) k0 (fun hHeld => ?_)
                    refine wpAnyH_takeD (i := 0) (oi := _) (d := 93) (v := ?vr0) rfl (by kernel_rfl) (by kernel_rfl) (by kernel_rfl) (by kernel_rfl) (fun _ _ _ h => h) (Or.inl ⟨by kernel_rfl, ?yr0⟩) (by assumption) ?rr0
                    case yr0 =>
                      intro w' hSw
                      try dsimp only at hSw
                      go_simp
                      try with_reducible rfl
                    try simp only [Act.put, List.setIfInBounds_toArray, List.set_cons_zero, List.set_cons_succ]
                    refine wpAnyH_takeD (i := 1) (oi := _) (d := 94) (v := ?vr1) rfl (by kernel_rfl) (by kernel_rfl) (by kernel_rfl) (by kernel_rfl) (fun _ _ _ h => h) (Or.inl ⟨by kernel_rfl, ?yr1⟩) (by assumption) ?rr1
                    case yr1 =>
                      intro w' hSw
                      try dsimp only at hSw
                      go_simp
                      try with_reducible rfl
                    try simp only [Act.put, List.setIfInBounds_toArray, List.set_cons_zero, List.set_cons_succ]
                    refine wpAnyH_takeD (i := 2) (oi := _) (d := 95) (v := ?vr2) rfl (by kernel_rfl) (by kernel_rfl) (by kernel_rfl) (by kernel_rfl) (fun _ _ _ h => h) (Or.inl ⟨by kernel_rfl, ?yr2⟩) (by assumption) ?rr2
                    case yr2 =>
                      intro w' hSw
                      try dsimp only at hSw
                      go_simp
                      try with_reducible rfl
                    try simp only [Act.put, List.setIfInBounds_toArray, List.set_cons_zero, List.set_cons_succ]
                    refine wpAnyH_takeD (i := 3) (oi := _) (d := 96) (v := ?vr3) rfl (by kernel_rfl) (by kernel_rfl) (by kernel_rfl) (by kernel_rfl) (fun _ _ _ h => h) (Or.inl ⟨by kernel_rfl, ?yr3⟩) (by assumption) ?rr3
                    case yr3 =>
                      intro w' hSw
                      obtain ⟨sC, sP, sX⟩ := hSw
                      go_simp
                      try with_reducible rfl
                    try simp only [Act.put, List.setIfInBounds_toArray, List.set_cons_zero, List.set_cons_succ]
                    refine wpAnyH_takeD (i := 4) (oi := _) (d := 97) (v := ?vr4) rfl (by kernel_rfl) (by kernel_rfl) (by kernel_rfl) (by kernel_rfl) (fun _ _ _ h => h) (Or.inl ⟨by kernel_rfl, ?yr4⟩) (by assumption) ?rr4
                    case yr4 =>
                      intro w' hSw
                      try dsimp only at hSw
                      go_simp
                      try with_reducible rfl
                    try simp only [Act.put, List.setIfInBounds_toArray, List.set_cons_zero, List.set_cons_succ]
                    refine wpAnyH_takeD (i := 5) (oi := _) (d := 98) (v := ?vr5) rfl (by kernel_rfl) (by kernel_rfl) (by kernel_rfl) (by kernel_rfl) (fun _ _ _ h => h) (Or.inl ⟨by kernel_rfl, ?yr5⟩) (by assumption) ?rr5
                    case yr5 =>
                      intro w' hSw
                      try dsimp only at hSw
                      go_simp
                      try with_reducible rfl
                    try simp only [Act.put, List.setIfInBounds_toArray, List.set_cons_zero, List.set_cons_succ]
                    refine wpAnyH_takeD (i := 6) (oi := _) (d := 99) (v := ?vr6) rfl (by kernel_rfl) (by kernel_rfl) (by kernel_rfl) (by kernel_rfl) (fun _ _ _ h => h) (Or.inl ⟨by kernel_rfl, ?yr6⟩) (by assumption) ?rr6
                    case yr6 =>
                      intro w' hSw
                      obtain ⟨sC, sP, sX⟩ := hSw
                      go_simp
                      try with_reducible rfl
                    try simp only [Act.put, List.setIfInBounds_toArray, List.set_cons_zero, List.set_cons_succ]
                    refine wpAnyH_takeD (i := 7) (oi := _) (d := 100) (v := ?vr7) rfl (by kernel_rfl) (by kernel_rfl) (by kernel_rfl) (by kernel_rfl) (fun _ _ _ h => h) (Or.inl ⟨by kernel_rfl, ?yr7⟩) (by assumption) ?rr7
                    case yr7 =>
                      intro w' hSw
                      try dsimp only at hSw
                      go_simp
                      try with_reducible rfl
                    try simp only [Act.put, List.setIfInBounds_toArray, List.set_cons_zero, List.set_cons_succ]
                    refine wpAnyH_takeD (i := 8) (oi := _) (d := 101) (v := ?vr8) rfl (by kernel_rfl) (by kernel_rfl) (by kernel_rfl) (by kernel_rfl) (fun _ _ _ h => h) (Or.inl ⟨by kernel_rfl, ?yr8⟩) (by assumption) ?rr8
                    case yr8 =>
                      intro w' hSw
                      obtain ⟨sC, sP, sX⟩ := hSw
                      have x0 := cell_blk sX 0
                      simp at x0
                      go_simp
                      try with_reducible rfl
                    try simp only [Act.put, List.setIfInBounds_toArray, List.set_cons_zero, List.set_cons_succ]
                    refine wpAnyH_takeD (i := 9) (oi := _) (d := 102) (v := ?vr9) rfl (by kernel_rfl) (by kernel_rfl) (by kernel_rfl) (by kernel_rfl) (fun _ _ _ h => h) (Or.inl ⟨by kernel_rfl, ?yr9⟩) (by assumption) ?rr9
                    case yr9 =>
                      intro w' hSw
                      try dsimp only at hSw
                      go_simp
                      try with_reducible rfl
                    try simp only [Act.put, List.setIfInBounds_toArray, List.set_cons_zero, List.set_cons_succ]
                    refine wpAnyH_takeD (i := 10) (oi := _) (d := 103) (v := ?vr10) rfl (by kernel_rfl) (by kernel_rfl) (by kernel_rfl) (by kernel_rfl) (fun _ _ _ h => h) (Or.inl ⟨by kernel_rfl, ?yr10⟩) (by assumption) ?rr10
                    case yr10 =>
                      intro w' hSw
                      obtain ⟨sC, sP, sX⟩ := hSw
                      have x1 := cell_blk sX 1
                      simp at x1
                      go_simp
                      try with_reducible rfl
                    try simp only [Act.put, List.setIfInBounds_toArray, List.set_cons_zero, List.set_cons_succ]
                    refine wpAnyH_ready (rs := [11]) (by kernel_rfl) (by simp) ?_
                    refine AllReadyH.cons (o := _) rfl (fun K hK => ?_) AllReadyH.nil
                    go_simp
                    go_at_call 89
                    refine Hrs.out.mono ?_
                    rintro e1 w6 ⟨rfl, hM6, hc6⟩
                    have hP6 := Htd.out.p.risen Hol.out Hok.out (xs, xt) (by rw [Hbm.out]; exact hM6) hc6
                    have hT6 := Htd.out.turn hP6.1 hP6.2
                    have hma6 := hT6.marksAt Hma.out (o := o) (by rw [List.length_set]; exact Hol.out)
                    rw [Hmp.out] at hma6
                    simp only [List.length_set] at hma6
                    have k6 : TwR tp mb o n cap bm gc xs xt w6 := ⟨by rw [← Hnc.out.1, ← Hnc.out.2]; exact hma6.1, by rw [← Hbm.out]; exact hma6.2.2.1, (hc6.block _ Hgl.out (by intro hm; exact Hbl.out (List.mem_singleton.1 hm))).trans k0.x⟩
                    have HT6 := Lib.hid hT6
                    clear hP6 hT6 hma6 hM6 hc6
                    refine hK.out _ _ k6 (fun _ => ?_)
                    clear hK K
                    try simp only [Act.put, List.setIfInBounds_toArray, List.set_cons_zero, List.set_cons_succ]
                    refine wpAnyH_done (by kernel_rfl) ?_ _
                    go_wp2_with fail
                    go_roundg (l.length - (j + 1))
                    case measure => have := Hj.out; omega
                    case rel => exact ⟨j + 1, _, by have := Hj.out; omega, by go_num, HT6.out, by rw [List.length_set]; exact Hl'.out, by rw [Htake.out, List.foldl_append, ← Hg'.out]; simp [Hol.out], fun i hi => by rw [← Hn'.out i hi]; simp [List.getD, List.getElem?_set, Ne.symm hi]⟩
                  · have hji : ¬ (j : Int) < (l.length : Int) := by omega
                    go_wp2_with fail
                    go_meet
                    have he : l.take j = l := List.take_of_length_le (by omega)
                    exact ⟨ms', HT'.out, Hl'.out, by rw [Hg'.out, he]; exact Htms.out.symm, Hn'.out⟩
              case rest =>
                obtain ⟨ms', hT', hl', hg', hn'⟩ := hcut
                go_upto_region 19 with fail
                have htd := hT'.keep (Below.refl wc.heap.size wc).drew
                have hc14 := hT'.p.obj.cells.2.2.2.2.2.2.1
                rw [Hta2.out, Hmp.out] at hc14
                have hol : o < (twT S ms' td).told.length := Hoo.out.2
                have hot : o < B2.tk.length := by rw [hT'.p.told.len]; exact hol
                obtain ⟨n2, hn2⟩ : ∃ n2, (twT S ms' td).told.length = n2 := ⟨_, rfl⟩
                obtain ⟨cap2, hcap2⟩ : ∃ cap2, B2.tcap = cap2 := ⟨_, rfl⟩
                have hon : o < n2 := by omega
                have hoi : (o : Int) < (n2 : Int) := by omega
                rw [hn2, hcap2] at hc14
                have k0 : wc.drew.cell? ⟨tp, 14, none⟩ = some (.slice (some ⟨ta2, 0, none⟩) n2 cap2) := hc14
                have hcl := cclone_any va vc l wc.drew (Hown.out.keep fun g hg hlt => htd.below.block g hlt) (by omega)
                have Htd := Lib.hid htd
                have Hol := Lib.hid hol
                have Hot := Lib.hid hot
                have Hnn := Lib.hid (And.intro hn2 hcap2)
                have HTl := Lib.hid hl'
                have HTg := Lib.hid hg'
                have HTn := Lib.hid hn'
                have hmpl : tp < wc.heap.size := by rw [← Hmp.out]; exact hT'.p.lt _ (by rw [hT'.p.obj.lb]; simp)
                have htal2 : ta2 < wc.heap.size ∧ tp ≠ ta2 := by
                  have h1 := hT'.p.told.lb ta2 (by rw [Hta2.out]; rfl)
                  refine ⟨hT'.p.lt _ (by rw [h1]; simp), fun e => ?_⟩
                  have h2 := hT'.p.obj.lb
                  rw [Hmp.out, e, h1] at h2
                  cases h2
                clear hT' hl' hg' hn' htd hol hot hn2 hcap2 hc14 t0
                refine wp_region_held_drew (S := fun W => W.cell? ⟨tp, 14, none⟩ = some (.slice (some ⟨ta2, 0, none⟩) n2 cap2)) (by kernel_rfl) k0 (fun hHeld => ?_)
                refine wpAnyH_takeD (i := 0) (oi := _) (d := 106) (v := ?vs0) rfl (by kernel_rfl) (by kernel_rfl) (by kernel_rfl) (by kernel_rfl) (fun _ _ _ h => h) (Or.inl ⟨by kernel_rfl, ?ys0⟩) (by assumption) ?rs0
                case ys0 =>
                  intro w' hSw
                  try dsimp only at hSw
                  go_simp
                  try with_reducible rfl
                try simp only [Act.put, List.setIfInBounds_toArray, List.set_cons_zero, List.set_cons_succ]
                refine wpAnyH_takeD (i := 1) (oi := _) (d := 107) (v := ?vs1) rfl (by kernel_rfl) (by kernel_rfl) (by kernel_rfl) (by kernel_rfl) (fun _ _ _ h => h) (Or.inl ⟨by kernel_rfl, ?ys1⟩) (by assumption) ?rs1
                case ys1 =>
                  intro w' hSw
                  try dsimp only at hSw
                  go_simp
                  try with_reducible rfl
                try simp only [Act.put, List.setIfInBounds_toArray, List.set_cons_zero, List.set_cons_succ]
                refine wpAnyH_takeD (i := 2) (oi := _) (d := 108) (v := ?vs2) rfl (by kernel_rfl) (by kernel_rfl) (by kernel_rfl) (by kernel_rfl) (fun _ _ _ h => h) (Or.inl ⟨by kernel_rfl, ?ys2⟩) (by assumption) ?rs2
                case ys2 =>
                  intro w' hSw
                  try dsimp only at hSw
                  go_simp
                  try with_reducible rfl
                try simp only [Act.put, List.setIfInBounds_toArray, List.set_cons_zero, List.set_cons_succ]
                refine wpAnyH_takeD (i := 3) (oi := _) (d := 109) (v := ?vs3) rfl (by kernel_rfl) (by kernel_rfl) (by kernel_rfl) (by kernel_rfl) (fun _ _ _ h => h) (Or.inl ⟨by kernel_rfl, ?ys3⟩) (by assumption) ?rs3
                case ys3 =>
                  intro w' hSw
                  try dsimp only at hSw
                  go_simp
                  try with_reducible rfl
                try simp only [Act.put, List.setIfInBounds_toArray, List.set_cons_zero, List.set_cons_succ]
                refine wpAnyH_takeD (i := 4) (oi := _) (d := 110) (v := ?vs4) rfl (by kernel_rfl) (by kernel_rfl) (by kernel_rfl) (by kernel_rfl) (fun _ _ _ h => h) (Or.inl ⟨by kernel_rfl, ?ys4⟩) (by assumption) ?rs4
                case ys4 =>
                  intro w' hSw
                  try dsimp only at hSw
                  go_simp
                  try with_reducible rfl
                try simp only [Act.put, List.setIfInBounds_toArray, List.set_cons_zero, List.set_cons_succ]
                refine wpAnyH_takeD (i := 5) (oi := _) (d := 111) (v := ?vs5) rfl (by kernel_rfl) (by kernel_rfl) (by kernel_rfl) (by kernel_rfl) (fun _ _ _ h => h) (Or.inl ⟨by kernel_rfl, ?ys5⟩) (by assumption) ?rs5
                case ys5 =>
                  intro w' hSw
                  try dsimp only at hSw
                  go_simp
                  try with_reducible rfl
                try simp only [Act.put, List.setIfInBounds_toArray, List.set_cons_zero, List.set_cons_succ]
                refine wpAnyH_ready (rs := [6]) (by kernel_rfl) (by simp) ?_
                refine AllReadyH.cons (o := _) rfl (fun K hK => ?_) AllReadyH.nil
                go_simp
                go_at_call 90
                refine hcl.mono ?_
                rintro e1 w7 ⟨v7, rfl, ho7, hb7⟩
                obtain ⟨a7, c7, rfl, _⟩ := ho7.sl fun _ => rfl
                have hT7 := Htd.out.keep hb7
                have k7 : w7.cell? ⟨tp, 14, none⟩ = some (.slice (some ⟨ta2, 0, none⟩) n2 cap2) := (hb7.cell (p := ⟨tp, 14, none⟩) hmpl).trans k0
                have hown7 := hT7.p.told.own
                rw [Hta2.out] at hown7
                have fz := hown7.frozen o
                obtain ⟨tb, tq, he7, _, hx7⟩ := (hown7.sl0 fun _ => rfl).at1 Hot.out rfl
                have e7 : w7.cell? ⟨ta2, o, none⟩ = some (B2.tk[o].v) := by injection he7 with h1; injection h1 with h1 h2; subst h1 h2; rw [Nat.mul_one, Nat.zero_add] at hx7; exact hx7
                have hP8 := hT7.p.toldAt Hol.out Hot.out ⟨a7, l.length, c7⟩ l ho7 (fun g hg => Htd.out.away (ho7.ge hg).1) hb7 ta2 Hta2.out
                have HT8 := Lib.hid (Htd.out.turn hP8.1 hP8.2)
                have k8 : (w7.setCell ⟨ta2, o, none⟩ (.slice a7 l.length c7)).cell? ⟨tp, 14, none⟩ = some (.slice (some ⟨ta2, 0, none⟩) n2 cap2) := (World.cell?_setCell_other _ _ _ _ (by intro e; injection e with e _; exact htal2.2 e.symm)).trans k7
                clear hP8 hT7 hown7 he7 hx7 hb7 ho7
                refine hK.out _ _ k7 (fun _ => ?_)
                clear hK K
                try simp only [Act.put, List.setIfInBounds_toArray, List.set_cons_zero, List.set_cons_succ]
                refine wpAnyH_takeD (i := 7) (oi := _) (d := 113) (v := ?vs7) rfl (by kernel_rfl) (by kernel_rfl) (by kernel_rfl) (by kernel_rfl) (fun _ _ _ h => h) (Or.inl ⟨by kernel_rfl, ?ys7⟩) (by assumption) ?rs7
                case ys7 =>
                  intro w' hSw
                  try dsimp only at hSw
                  go_simp
                  try with_reducible rfl
                try simp only [Act.put, List.setIfInBounds_toArray, List.set_cons_zero, List.set_cons_succ]
                refine wpAnyH_ready (rs := [8]) (by kernel_rfl) (by simp) ?_
                refine AllReadyH.cons (o := _) rfl (fun K hK => ?_) AllReadyH.nil
                go_simp
                refine hK.out _ _ k8 (fun _ => ?_)
                clear hK K
                try simp only [Act.put, List.setIfInBounds_toArray, List.set_cons_zero, List.set_cons_succ]
                refine wpAnyH_done (by kernel_rfl) ?_ _
                go_wp2_with fail
                go_roundg (S.told.length - (o + 1))
                case measure => have := Ho.out; omega
                case rel => exact ⟨o + 1, _, ms', td.set o l, by have := Ho.out; omega, by go_num, HT8.out, Hmp.out, by have h9 := Hcp.out.step hlt HTl.out HTg.out HTn.out; rw [Hl.out] at h9; exact h9⟩
            · have hlti : ¬ (o : Int) < (S.told.length : Int) := by omega
              go_wp2_with fail
              go_meet
              have he : o = S.told.length := by have := Ho.out; omega
              exact ⟨B2, ms, td, HT.out, Hmp.out, by rw [← he]; exact Hcp.out⟩
        case rest =>
          obtain ⟨B2, ms, td, hT, hmp, hcp⟩ := hcut
          rw [hcp.fin Hh.out.inv] at hT
          have HT := Lib.hid hT
          have Hmp := Lib.hid hmp
          clear hT hmp hcp
          go_wp2_with fail
          go_ret
          exact ⟨B2, by rw [Hmp.out]; rfl, HT.out.p.model Hh.out.inv, HT.out.below, HT.out.low⟩
end Go.Proofs.YtaicecnfodhlcaaGreat
/- ModelRefused: the plain law. -/
set_option linter.unusedVariables false
set_option linter.unusedSimpArgs false
namespace Go.Proofs.YtaicecnfodhlcaaGreat
open Go.RowKit Go.Deep

theorem Mst.inner_L (S : Mst) (s : Int) (q : Rq) : (S.inner s q).1.L = S.L ∧ (S.inner s q).1.cfg = S.cfg ∧ (S.inner s q).1.ms = S.ms ∧ (S.inner s q).1.cnt = S.cnt := by
  unfold Mst.inner
  split
  · unfold Mst.pin
    split
    · exact ⟨rfl, rfl, rfl, rfl⟩
    · split <;> exact ⟨rfl, rfl, rfl, rfl⟩
  split
  · unfold Mst.join
    split
    · split
      · exact ⟨rfl, rfl, rfl, rfl⟩
      · split <;> exact ⟨rfl, rfl, rfl, rfl⟩
    · exact ⟨rfl, rfl, rfl, rfl⟩
  split
  · unfold Mst.release
    split
    · unfold Mst.drop
      split <;> exact ⟨rfl, rfl, rfl, rfl⟩
    · exact ⟨rfl, rfl, rfl, rfl⟩
  split
  · exact ⟨rfl, rfl, rfl, rfl⟩
  unfold Mst.read
  split
  · exact ⟨rfl, rfl, rfl, rfl⟩
  · split
    · split
      · split <;> exact ⟨rfl, rfl, rfl, rfl⟩
      · exact ⟨rfl, rfl, rfl, rfl⟩
    · exact ⟨rfl, rfl, rfl, rfl⟩
theorem Mst.ask_L (S : Mst) (s : Int) (q : Rq) (r : Int) : (S.ask s q r).1.L = S.L ∧ (S.ask s q r).1.cfg = S.cfg ∧ (S.ask s q r).1.ms = S.ms ∧ (S.ask s q r).1.cnt = S.cnt := by
  unfold Mst.ask
  split; · exact ⟨rfl, rfl, rfl, rfl⟩
  split; · exact ⟨rfl, rfl, rfl, rfl⟩
  split; · exact ⟨rfl, rfl, rfl, rfl⟩
  split; · exact ⟨rfl, rfl, rfl, rfl⟩
  rw [answered_fst]
  exact S.inner_L s q
/-- An error, or a kind of rows and the like; where it is an error the state is as it was. -/
theorem Mst.inner_err (S : Mst) (s : Int) (q : Rq) : ((S.inner s q).2.1 ≠ 0 → (S.inner s q).1 = S) ∧ ((S.inner s q).2.1 = 0 → (S.inner s q).2.2.k ≠ 5) := by
  unfold Mst.inner
  split
  · unfold Mst.pin
    split
    · exact ⟨fun _ => rfl, fun h => by cases h⟩
    · split
      · exact ⟨fun _ => rfl, fun h => by cases h⟩
      · exact ⟨fun h => absurd rfl h, fun _ => by simp⟩
  split
  · unfold Mst.join
    split
    · split
      · exact ⟨fun h => absurd rfl h, fun _ => by simp⟩
      · split
        · exact ⟨fun _ => rfl, fun h => by cases h⟩
        · exact ⟨fun h => absurd rfl h, fun _ => by simp⟩
    · exact ⟨fun _ => rfl, fun h => by cases h⟩
  split
  · unfold Mst.release
    split
    · exact ⟨fun h => absurd rfl h, fun _ => by simp⟩
    · exact ⟨fun _ => rfl, fun h => by cases h⟩
  split
  · exact ⟨fun _ => rfl, fun _ => by simp [Mst.told4]⟩
  unfold Mst.read
  split
  · exact ⟨fun _ => rfl, fun h => by cases h⟩
  · split
    · split
      · split
        · exact ⟨fun _ => rfl, fun h => by cases h⟩
        · exact ⟨fun h => absurd rfl h, fun _ => by simp⟩
      · exact ⟨fun h => absurd rfl h, fun _ => by simp⟩
    · exact ⟨fun h => absurd rfl h, fun _ => by simp⟩
theorem Mst.ask_err (S : Mst) (s : Int) (q : Rq) (r : Int) (h0 : (S.ask s q r).2.1 = 0) (h5 : (S.ask s q r).2.2.k = 5) : (S.ask s q r).1 = S := by
  unfold Mst.ask at *
  split; · rfl
  split; · rfl
  split; · rfl
  split; · rfl
  rename_i h1 h2 h3 h4
  rw [if_neg h1, if_neg h2, if_neg h3, if_neg h4] at h5
  unfold answered at *
  by_cases h6 : (S.inner s q).2.1 = 0
  · rw [if_pos h6] at h5
    exact absurd h5 ((S.inner_err s q).2 h6)
  · rw [if_neg h6]
    exact (S.inner_err s q).1 h6
/-- Refused from outside. -/
theorem Mst.ask_out (S : Mst) (s : Int) (q : Rq) (r : Int) (h1 : 1 ≤ s) (h2 : s ≤ 64) (hr : r = 35 ∨ r = 36) : S.ask s q r = if chkRq q = 0 then (S, 0, Rsp.bad q.i r) else (S, chkRq q, Rsp.no) := by
  unfold Mst.ask
  rw [if_neg (by omega)]
  by_cases hc : chkRq q = 0
  · rw [if_neg (by simp [hc]), if_neg (by omega), if_pos (by omega), if_pos hc]
  · rw [if_pos hc, if_neg hc]
/-- An event for which there is no room. -/
theorem Mst.event_full (S : Mst) (mk : Bool) (k : ByteArray) (t v : Int) : ((S.event mk k t v true).1 = S ∧ (S.event mk k t v true).2.1 = 0 ∧ (S.event mk k t v true).2.2 ≠ 0) ∨ S.event mk k t v true = (S.counts { S.cnt with f := S.cnt.f + 1 }, 4, 0) := by
  unfold Mst.event
  split; · exact .inl ⟨rfl, rfl, by simp⟩
  split; · exact .inl ⟨rfl, rfl, by simp⟩
  split; · exact .inl ⟨rfl, rfl, by simp⟩
  split; · exact .inl ⟨rfl, rfl, by simp⟩
  split; · exact .inl ⟨rfl, rfl, by simp⟩
  rename_i hn
  simp only [Bool.true_and, Bool.not_eq_true, Bool.or_eq_false_iff] at hn
  obtain ⟨⟨h1, h2⟩, h3⟩ := hn
  rw [if_neg (by simp [h1]), if_neg (by simp [h2]), if_pos rfl]
  exact .inr rfl
end Go.Proofs.YtaicecnfodhlcaaGreat
/- Two models that go on apart; the configuration stays. -/
set_option linter.unusedVariables false
set_option linter.unusedSimpArgs false
namespace Go.Proofs.YtaicecnfodhlcaaGreat
open Go.RowKit Go.Deep

/-- A struct is read under a guard that holds. -/
theorem wpList_load_rowG {P : Program} {ops : Array Oper} {rest : List Oper} {op : Oper} {a : Act} {w : World} {Q : Exit → Act → World → Prop} (hw : Region.wanted op (yielded ops a.tmps) = true) (ty : TypeId) (x : Operand) (ho : op.op = .load ty x)
    (g : Nat) (hx : a.eval x = .pointer (some ⟨g, 0, none⟩)) {cs : Array Value} {t : TypeId} {fr : Nat × Nat} {d : TypeDesc} (hb : w.heap[g]? = some (.cells cs t fr)) (hu : P.underlying ty = some d) (hd : (match d with | .struct _ | .array _ _ => true | _ => false) = true) (hi : (P.info? ty).map (·.size) = some cs.size)
    (h : wpList P ops Q rest (a.put op.dst (.agg cs)) w) : wpList P ops Q (op :: rest) a w := by
  unfold wpList
  rw [if_pos hw]
  refine .inl ?_
  unfold Oper.wp execOp
  have hl := load_blk (P := P) ty d hb hu hd hi
  simp only [ho, hx, Sem.run_bind, hl, Result.andThen_ok]
  exact h
theorem event_cfg (S : Mst) (mk : Bool) (k : ByteArray) (t v : Int) (full : Bool) : (S.event mk k t v full).1.cfg = S.cfg := by
  unfold Mst.event
  repeat' split
  all_goals rfl
theorem mark_cfg (S : Mst) (o s t : Int) : (S.mark o s t).1.cfg = S.cfg := by
  unfold Mst.mark
  repeat' split
  all_goals rfl
theorem kill_cfg (S : Mst) (c : Cell) : (S.kill c).1.cfg = S.cfg := by
  unfold Mst.kill
  repeat' split
  all_goals rfl
theorem killAll_cfg : ∀ (cs : List Cell) (S : Mst), (S.killAll cs).cfg = S.cfg
  | [], _ => rfl
  | c :: cs, S => (killAll_cfg cs (S.kill c).1).trans (kill_cfg S c)
theorem act_cfg (S : Mst) (x : Opx) : (S.act x).cfg = S.cfg := by
  unfold Mst.act
  split; · exact event_cfg _ _ _ _ _ _
  split; · exact mark_cfg _ _ _ _
  split; · exact kill_cfg _ _
  split; · exact (Mst.ask_L _ _ _ _).2.1
  split; · rfl
  split; · exact killAll_cfg _ _
  rfl
/-- Two models, apart. -/
structure Duo (W1 w : World) (mp : Nat) (B : MB) (T : Mst) (n : Nat) (mp2 : Nat) (B2 : MB) (T2 : Mst) (n2 : Nat) : Prop where
  m : Mine W1 w mp B T n
  o : Mine W1 w mp2 B2 T2 n2
  dis : ∀ g, B2.lab g ≠ .no → B.lab g = .no
section
variable {W1 w w' : World} {mp : Nat} {B B' : MB} {T T' : Mst} {n n' mp2 : Nat} {B2 B2' : MB} {T2 T2' : Mst} {n2 n2' : Nat}
theorem Duo.swap (h : Duo W1 w mp B T n mp2 B2 T2 n2) : Duo W1 w mp2 B2 T2 n2 mp B T n :=
  ⟨h.o, h.m, fun g hg => Decidable.byContradiction fun hn => hg (h.dis g hn)⟩
theorem Duo.turn (h : Duo W1 w mp B T n mp2 B2 T2 n2) (hM : Mine W1 w' mp B' T' n') (hT : Turn w w' B B') : Duo W1 w' mp B' T' n' mp2 B2 T2 n2 :=
  ⟨hM, ⟨h.o.md.keep hT.chg.size fun g hg => (hT.away (h.dis g hg) (h.o.md.lt g hg)).2, h.o.mp, h.o.few, h.o.low, hM.below⟩, fun g hg => (hT.away (h.dis g hg) (h.o.md.lt g hg)).1⟩
theorem Duo.turn2 (h : Duo W1 w mp B T n mp2 B2 T2 n2) (hM : Mine W1 w' mp2 B2' T2' n2') (hT : Turn w w' B2 B2') : Duo W1 w' mp B T n mp2 B2' T2' n2' := (h.swap.turn hM hT).swap
theorem Duo.keep (h : Duo W1 w mp B T n mp2 B2 T2 n2) (hb : Below w.heap.size w w') : Duo W1 w' mp B T n mp2 B2 T2 n2 := ⟨h.m.keep hb, h.o.keep hb, h.dis⟩
/-- The twin of a model that is the law's own. -/
theorem Mine.twin (h : Mine W1 w mp B T n) (hn : n ≤ 99999) (hr : T.cfg.right = true) :
    Calls Tryz.prog 33 #[.pointer (some ⟨mp, 0, none⟩)] w fun e w' => ∃ mp2 B2, e = .returned (.pointer (some ⟨mp2, 0, none⟩)) ∧ Duo W1 w' mp B T n mp2 B2 T n ∧ Below w.heap.size w w' := by
  have hc := twin_any h.md hr (fun l hl => by have := h.few.td l hl; omega)
  rw [h.mp] at hc
  refine hc.mono ?_
  rintro e w' ⟨B2, rfl, hM, hb, hl⟩
  exact ⟨B2.mp, B2, rfl, ⟨h.keep hb, ⟨hM, rfl, h.few, fun g hg => Nat.le_trans h.below.size (hl g hg), h.below.trans (hb.mono h.below.size)⟩, fun g hg => h.away (hl g hg)⟩, hb⟩
end
end Go.Proofs.YtaicecnfodhlcaaGreat
/- The walk of the law ModelSwaps. -/
set_option linter.unusedVariables false
set_option linter.unusedSimpArgs false
namespace Go.Proofs.YtaicecnfodhlcaaGreat
open Go.RowKit Go.Deep

set_option maxRecDepth 100000 in
set_option maxHeartbeats 40000000 in
theorem swaps_any (c : Cfg) (A : Option Addr) (cap : Nat) (A1 : Option Addr) (cap1 : Nat) (l : List Opx) (x y : Opx) (W : World)
    (hsv : Sl 3 viewL W A c.vs) (hcl : c.vs.length ≤ 9223372036854775807) (hsl : Sl 25 opL W A1 l) (hok : ∀ o ∈ l, OpOk W o) (hll : l.length ≤ 9223372036854775807) (hx : OpOk W x) (hxk : x.c.k.size ≤ maxLen) (hy : OpOk W y) (hyk : y.c.k.size ≤ maxLen) :
    Calls Tryz.prog 7 #[cfgV c A cap, .slice A1 l.length cap1, opV x, opV y] W fun e W' => e = .returned (.bool true) ∧ Below W.heap.size W W' := by
  go_enter Tryz.func7, Tryz.ntmps7
  go_upto_region 1 with fail
  generalize hW1 : World.alloc (World.alloc (World.alloc W _) _) _ = W1
  have hb1 : Below W.heap.size W W1 := by rw [← hW1]; exact (((Below.refl _ _).alloc (Nat.le_refl _) _).alloc (by simp) _).alloc (by simp; omega) _
  have r0 : W1.heap[W.heap.size]? = some (cfgO c A cap) := by rw [← hW1]; exact (blk_old (by simp; try omega)).trans ((blk_old (by simp; try omega)).trans (blk_at rfl))
  have rx : W1.heap[W.heap.size + 1]? = some (.cells (opL x).toArray 41 (0, 0)) := by rw [← hW1]; exact (blk_old (by simp; try omega)).trans (blk_at (by simp))
  have ry : W1.heap[W.heap.size + 1 + 1]? = some (.cells (opL y).toArray 41 (0, 0)) := by rw [← hW1]; exact blk_at (by simp)
  clear hW1
  have hrr := refRight_any c A cap W1 (hsv.below hb1) hcl
  have hhead := fun W' => head_any W'
  have u0 := cell_blk r0 0
  have u1 := cell_blk r0 1
  have u2 := cell_blk r0 2
  have u3 := cell_blk r0 3
  have u4 := cell_blk r0 4
  have u5 := cell_blk r0 5
  have u6 := cell_blk r0 6
  have u7 := cell_blk r0 7
  have u8 := cell_blk r0 8
  have u9 := cell_blk r0 9
  have u10 := cell_blk r0 10
  have u11 := cell_blk r0 11
  simp at u0 u1 u2 u3 u4 u5 u6 u7 u8 u9 u10 u11
  have Hb1 := Lib.hid hb1
  have R0 := Lib.hid r0
  have Rx := Lib.hid rx
  have Ry := Lib.hid ry
  have Hx := Lib.hid hx
  have Hy := Lib.hid hy
  clear hb1 r0 rx ry hx hy
  go_wp2_with fail
  refine hrr.mono ?_
  rintro e w2 ⟨rfl, hb2⟩
  have Hb2 := Lib.hid hb2
  clear hrr hb2 u0 u1 u2 u3 u4 u5 u6 u7 u8 u9 u10 u11
  cases hR : c.right
  · clear hR
    go_wp2_with fail
    refine (hhead _).mono ?_
    rintro e w3 ⟨rfl, hb3⟩
    go_wp2_with fail
    go_ret
    exact ⟨rfl, Hb1.out.trans ((Hb2.out.trans (hb3.mono Hb2.out.size)).mono Hb1.out.size)⟩
  have HR := Lib.hid hR
  clear hR
  have rx2 := (Hb2.out.block _ (lt_of_block Rx.out)).trans Rx.out
  have hsx := small2_any x w2
  have Rx2 := Lib.hid rx2
  clear rx2
  go_wp2_with (refine wpList_load_rowG (by kernel_rfl) 41 _ rfl (W.heap.size + 1) rfl Rx2.out Tryz.underlying41 rfl (by kernel_rfl) ?_)
  refine hsx.mono ?_
  rintro e w3 ⟨rfl, hb3⟩
  have Hb3 := Lib.hid (Hb2.out.trans (hb3.mono Hb2.out.size))
  clear hsx hb3 Rx2
  cases hS : decide (x.q.cells.length ≤ 100)
  · clear hS
    go_wp2_with fail
    refine (hhead _).mono ?_
    rintro e w4 ⟨rfl, hb4⟩
    go_wp2_with fail
    go_ret
    exact ⟨rfl, Hb1.out.trans ((Hb3.out.trans (hb4.mono Hb3.out.size)).mono Hb1.out.size)⟩
  clear hS
  have ry3 := (Hb3.out.block _ (lt_of_block Ry.out)).trans Ry.out
  have hsy := small2_any y w3
  have Ry3 := Lib.hid ry3
  clear ry3
  go_wp2_with (refine wpList_load_rowG (by kernel_rfl) 41 _ rfl (W.heap.size + 1 + 1) rfl Ry3.out Tryz.underlying41 rfl (by kernel_rfl) ?_)
  refine hsy.mono ?_
  rintro e w4 ⟨rfl, hb4⟩
  have Hb4 := Lib.hid (Hb3.out.trans (hb4.mono Hb3.out.size))
  clear hsy hb4 Ry3
  cases hS : decide (y.q.cells.length ≤ 100)
  · clear hS
    go_wp2_with fail
    refine (hhead _).mono ?_
    rintro e w5 ⟨rfl, hb5⟩
    go_wp2_with fail
    go_ret
    exact ⟨rfl, Hb1.out.trans ((Hb4.out.trans (hb5.mono Hb4.out.size)).mono Hb1.out.size)⟩
  clear hS
  have r0' := (Hb4.out.block _ (lt_of_block R0.out)).trans R0.out
  have v0 := cell_blk r0' 0
  have v1 := cell_blk r0' 1
  have v2 := cell_blk r0' 2
  have v3 := cell_blk r0' 3
  have v4 := cell_blk r0' 4
  have v5 := cell_blk r0' 5
  have v6 := cell_blk r0' 6
  have v7 := cell_blk r0' 7
  have v8 := cell_blk r0' 8
  have v9 := cell_blk r0' 9
  have v10 := cell_blk r0' 10
  have v11 := cell_blk r0' 11
  simp at v0 v1 v2 v3 v4 v5 v6 v7 v8 v9 v10 v11
  have hnew := Mine.new (w0 := W1) (c := c) Hb4.out (hsv.below (Hb1.out.trans (Hb4.out.mono Hb1.out.size))) HR.out (cap := cap)
  clear r0'
  go_wp2_with fail
  refine hnew.mono ?_
  rintro e w5 ⟨B0, rfl, hM5, hb5⟩
  have HM5 := Lib.hid hM5
  clear hnew hM5 hb5 v0 v1 v2 v3 v4 v5 v6 v7 v8 v9 v10 v11
  generalize B0.mp = mp at *
  go_upto_block 0 with fail
  go_cut [11] from 50 to 70 (fun sI wx => ∃ (n : Nat) (T : Mst) (B : MB), n ≤ 50 ∧ T.cfg = c ∧ Mine W1 wx mp B T n)
  case first =>
    go_wp2_with fail
    go_loopg [11] l.length (fun g i wr => ∃ (j : Nat) (T : Mst) (B : MB), j + g = l.length ∧ i = .int .i64 j ∧ j ≤ 50 ∧ T.cfg = c ∧ Mine W1 wr mp B T j)
    case atStart => exact ⟨0, _, _, by omega, rfl, by omega, rfl, HM5.out⟩
    case round =>
      obtain ⟨j, T, B, hj, rfl, hj50, hc, hM⟩ := hrel
      have Hj := Lib.hid hj
      have HM := Lib.hid hM
      have Hc := Lib.hid hc
      have hbw : Below W.heap.size W wr := Hb1.out.trans (hM.below.mono Hb1.out.size)
      by_cases hlt : j < l.length ∧ j < 50
      · obtain ⟨hlt, hl50⟩ := hlt
        obtain ⟨xb, xo, hAe, hxb, hXc⟩ := hsl.at_op hlt
        have hox := hok _ (List.getElem_mem hlt)
        generalize l[j] = z at *
        have hra : ∀ W', Below W.heap.size W W' → ∀ jj v, (opL z)[jj]? = some v → W'.cell? ⟨xb, xo + j * 25 + jj, none⟩ = some v := fun W' hW jj v hv => (hW.cell (p := ⟨xb, xo + j * 25 + jj, none⟩) hxb).trans (hXc jj v hv)
        have hsm := small2_any z wr
        have Hra := Lib.hid hra
        have Hox := Lib.hid hox
        have Hbw := Lib.hid hbw
        have hjl : (j : Int) < (l.length : Int) := by omega
        have hjl50 : (j : Int) < 50 := by omega
        clear hra hox hbw hM hj hXc hxb hc
        subst hAe
        go_upto_if 64 with (first | (go_at_call 13; refine hsm.mono ?_; rintro e w6 ⟨rfl, hb6⟩; have HM6 := Lib.hid (HM.out.keep hb6); clear hsm hb6) | (refine wpList_load_mid (ty := 41) rfl _ rfl xb _ rfl (opL z) _ (Hra.out _ Hbw.out) Tryz.underlying41 rfl (by kernel_rfl) ?_))
        have Hbw6 := Lib.hid (Hb1.out.trans (HM6.out.below.mono Hb1.out.size))
        cases hs : decide (z.q.cells.length ≤ 100)
        · go_wp2_with fail
          go_roundg (gk - 1)
          case measure => have := Hj.out; omega
          case rel => exact ⟨j + 1, T, B, by have := Hj.out; omega, by go_num, by omega, Hc.out, HM6.out.more⟩
        · have hact := HM6.out.act2 (by omega) z (Hox.out.below Hbw6.out) (of_decide_eq_true hs)
          go_wp2_with (refine wpList_load_mid (ty := 41) rfl _ rfl xb _ rfl (opL z) _ (Hra.out _ Hbw6.out) Tryz.underlying41 rfl (by kernel_rfl) ?_)
          refine hact.mono ?_
          rintro e w7 ⟨rfl, B', hM7, hT7⟩
          have HM7 := Lib.hid hM7
          clear hM7 hT7 hact
          go_wp2_with fail
          go_roundg (gk - 1)
          case measure => have := Hj.out; omega
          case rel => exact ⟨j + 1, _, B', by have := Hj.out; omega, by go_num, by omega, (act_cfg T z).trans Hc.out, HM7.out⟩
      · have hxx : ¬ ((j : Int) < (l.length : Int)) ∨ ((j : Int) < (l.length : Int) ∧ ¬ ((j : Int) < 50)) := by omega
        clear hj hM hbw hlt hc
        rcases hxx with h1 | ⟨h1, h2⟩
        · go_wp2_with fail
          go_meet
          exact ⟨j, T, B, hj50, Hc.out, HM.out⟩
        · go_wp2_with fail
          go_meet
          exact ⟨j, T, B, hj50, Hc.out, HM.out⟩
  case rest =>
    obtain ⟨n, T, B, hn, hc, hM⟩ := hcut
    have HM := Lib.hid hM
    have Hc := Lib.hid hc
    have hax := hM.opAt x (Hx.out.below (Hb1.out.trans (hM.below.mono Hb1.out.size))) hxk
    have rx6 := (hM.below.block _ (lt_of_block Rx.out)).trans Rx.out
    have Rx6 := Lib.hid rx6
    clear rx6 hM hc
    go_wp2_with (refine wpList_load_row rfl 41 _ rfl (W.heap.size + 1) rfl _ _ (0, 0) _ Rx6.out Tryz.underlying41 rfl (by kernel_rfl) ?_)
    refine hax.mono ?_
    rintro e w6 ⟨⟨a1, b1, rfl, ha1⟩, hb6⟩
    have HM6 := Lib.hid (HM.out.keep hb6)
    have Ha1 := Lib.hid ha1
    clear hax hb6 ha1 HM
    have hay := HM6.out.opAt y (Hy.out.below (Hb1.out.trans (HM6.out.below.mono Hb1.out.size))) hyk
    have ry7 := (HM6.out.below.block _ (lt_of_block Ry.out)).trans Ry.out
    have Ry7 := Lib.hid ry7
    clear ry7
    go_wp2_with (refine wpList_load_row rfl 41 _ rfl (W.heap.size + 1 + 1) rfl _ _ (0, 0) _ Ry7.out Tryz.underlying41 rfl (by kernel_rfl) ?_)
    refine hay.mono ?_
    rintro e w7 ⟨⟨a2, b2, rfl, ha2⟩, hb7⟩
    have HM7 := Lib.hid (HM6.out.keep hb7)
    have Ha2 := Lib.hid ha2
    clear hay hb7 ha2 HM6
    have hcase : (b1 = true ∧ b2 = true ∧ a1 ≠ a2) ∨ b1 = false ∨ (b1 = true ∧ b2 = false) ∨ (b1 = true ∧ b2 = true ∧ a1 = a2) := by
      cases b1 <;> cases b2 <;> simp
      exact (Decidable.em (a1 = a2)).symm
    rcases hcase with ⟨rfl, rfl, hne⟩ | hq
    · have hne' : opAt T.cfg.op x ≠ opAt T.cfg.op y := by rw [← Ha1.out rfl, ← Ha2.out rfl]; exact hne
      have Hne := Lib.hid hne'
      have htw := HM7.out.twin (by omega) (by rw [Hc.out]; exact HR.out)
      clear hne' Ha1 Ha2
      have ha12 : (a1 == a2) = false := by simpa using hne
      go_wp2_with fail
      refine htw.mono ?_
      rintro e w8 ⟨mp2, B2, rfl, hD, hb8⟩
      have HD8 := Lib.hid hD
      clear htw hD hb8 HM7
      clear ha12 hne
      have ht := HD8.out.m.tell (by omega) x (Hx.out.below (Hb1.out.trans (HD8.out.m.below.mono Hb1.out.size)))
      have Rxb := Lib.hid ((HD8.out.m.below.block _ (lt_of_block Rx.out)).trans Rx.out)
      go_wp2_with (refine wpList_load_row rfl 41 _ rfl (W.heap.size + 1) rfl _ _ (0, 0) _ Rxb.out Tryz.underlying41 rfl (by kernel_rfl) ?_)
      refine ht.mono ?_
      rintro e w9 ⟨rfl, B', hM', hT'⟩
      have HD9 := Lib.hid (HD8.out.turn hM' hT')
      clear ht hM' hT' Rxb
      have ht := HD9.out.m.tell (by omega) y (Hy.out.below (Hb1.out.trans (HD9.out.m.below.mono Hb1.out.size)))
      have Ryb := Lib.hid ((HD9.out.m.below.block _ (lt_of_block Ry.out)).trans Ry.out)
      go_wp2_with (refine wpList_load_row rfl 41 _ rfl (W.heap.size + 1 + 1) rfl _ _ (0, 0) _ Ryb.out Tryz.underlying41 rfl (by kernel_rfl) ?_)
      refine ht.mono ?_
      rintro e wA ⟨rfl, B', hM', hT'⟩
      have HDA := Lib.hid (HD9.out.turn hM' hT')
      clear ht hM' hT' Ryb
      have ht := HDA.out.o.tell (by omega) y (Hy.out.below (Hb1.out.trans (HDA.out.m.below.mono Hb1.out.size)))
      have Ryb := Lib.hid ((HDA.out.m.below.block _ (lt_of_block Ry.out)).trans Ry.out)
      go_wp2_with (refine wpList_load_row rfl 41 _ rfl (W.heap.size + 1 + 1) rfl _ _ (0, 0) _ Ryb.out Tryz.underlying41 rfl (by kernel_rfl) ?_)
      refine ht.mono ?_
      rintro e wB ⟨rfl, B', hM', hT'⟩
      have HDB := Lib.hid (HDA.out.turn2 hM' hT')
      clear ht hM' hT' Ryb
      have ht := HDB.out.o.tell (by omega) x (Hx.out.below (Hb1.out.trans (HDB.out.m.below.mono Hb1.out.size)))
      have Rxb := Lib.hid ((HDB.out.m.below.block _ (lt_of_block Rx.out)).trans Rx.out)
      go_wp2_with (refine wpList_load_row rfl 41 _ rfl (W.heap.size + 1) rfl _ _ (0, 0) _ Rxb.out Tryz.underlying41 rfl (by kernel_rfl) ?_)
      refine ht.mono ?_
      rintro e wC ⟨rfl, B', hM', hT'⟩
      have HDC := Lib.hid (HDB.out.turn2 hM' hT')
      clear ht hM' hT' Rxb
      have hsw := swap_law HD8.out.m.md.inv HD9.out.m.md.inv HDB.out.o.md.inv HDA.out.m.md.inv HDC.out.o.md.inv Hne.out
      have hL := hsw.2.2.1
      have hst : ((T.tell y).1.tell x).1.statsV = ((T.tell x).1.tell y).1.statsV := by unfold Mst.statsV; rw [hsw.2.2.1, hsw.2.2.2.1, hsw.2.2.2.2]
      rw [hsw.1, hsw.2.1]
      have HL := Lib.hid hL
      have Hst := Lib.hid hst
      clear hsw hL hst Hne HD9 HDA HDB HD8
      have hmap := HDC.out.m.map (by omega)
      have hstE := fun (W : World) => run_eql_stats ((T.tell x).1.tell y).1.cnt.t ((T.tell x).1.tell y).1.cnt.l ((T.tell x).1.tell y).1.cnt.o ((T.tell x).1.tell y).1.cnt.f ((T.tell x).1.tell y).1.L.length ((T.tell x).1.tell y).1.now ((T.tell x).1.tell y).1.cnt.t ((T.tell x).1.tell y).1.cnt.l ((T.tell x).1.tell y).1.cnt.o ((T.tell x).1.tell y).1.cnt.f ((T.tell x).1.tell y).1.L.length ((T.tell x).1.tell y).1.now W
      simp only [decide_true] at hstE
      generalize hTx : (T.tell x).2.1 = f1 at *
      generalize hTx2 : (T.tell x).2.2 = g1 at *
      generalize hTy : (T.tell y).2.1 = f2 at *
      generalize hTy2 : (T.tell y).2.2 = g2 at *
      clear hTx hTx2 hTy hTy2
      generalize hT2 : ((T.tell x).1.tell y).1 = T2 at *
      generalize hT4 : ((T.tell y).1.tell x).1 = T4 at *
      clear hT2 hT4
      go_wp2_with fail
      refine hmap.mono ?_
      rintro e wa ⟨v1, rfl, ho1, hba⟩
      obtain ⟨oa1, oc1, rfl, _⟩ := ho1.sl fun _ => rfl
      have HDd := Lib.hid (HDC.out.keep hba)
      have Ho1 := Lib.hid (ho1.sl0 fun _ => rfl)
      have HlL := Lib.hid (HDC.out.m.max (by omega))
      clear hmap ho1 hba HDC
      have hmap := HDd.out.o.map (by omega)
      rw [HL.out] at hmap
      go_wp2_with fail
      refine hmap.mono ?_
      rintro e wb ⟨v2, rfl, ho2, hbb⟩
      obtain ⟨oa2, oc2, rfl, _⟩ := ho2.sl fun _ => rfl
      have HDe := Lib.hid (HDd.out.keep hbb)
      have hsam := sameRows_any oa1 oc1 T2.L oa2 oc2 T2.L wb (Ho1.out.below hbb) (ho2.sl0 fun _ => rfl) (by have := HlL.out; omega)
      simp only [decide_true] at hsam
      clear hmap ho2 hbb HDd
      go_wp2_with fail
      refine hsam.mono ?_
      rintro e wd ⟨rfl, hbd⟩
      have HDf := Lib.hid (HDe.out.keep hbd)
      have hs1 : Calls Tryz.prog 16 #[.pointer (some ⟨mp, 0, none⟩)] wd fun e w' => e = .returned (statV T2.cnt.t T2.cnt.l T2.cnt.o T2.cnt.f T2.L.length T2.now) ∧ Below wd.heap.size wd w' := HDf.out.m.stats
      clear hsam hbd HDe
      go_wp2_with fail
      refine hs1.mono ?_
      rintro e we ⟨rfl, hbe⟩
      have HDg := Lib.hid (HDf.out.keep hbe)
      have hs2 : Calls Tryz.prog 16 #[.pointer (some ⟨mp2, 0, none⟩)] we fun e w' => e = .returned (statV T2.cnt.t T2.cnt.l T2.cnt.o T2.cnt.f T2.L.length T2.now) ∧ Below we.heap.size we w' := by
        have h9 := HDg.out.o.stats
        rw [Hst.out] at h9
        exact h9
      clear hs1 hbe HDf
      go_wp2_with fail
      refine hs2.mono ?_
      rintro e wf ⟨rfl, hbf⟩
      have HDh := Lib.hid (HDg.out.keep hbf)
      clear hs2 hbf HDg
      go_wp2_with fail
      refine (hhead _).mono ?_
      rintro e wg ⟨rfl, hbg⟩
      have HDi := Lib.hid (HDh.out.keep hbg)
      clear hbg HDh
      go_wp2_with fail
      go_ret
      exact ⟨rfl, Hb1.out.trans (HDi.out.m.below.mono Hb1.out.size)⟩
    · rcases hq with rfl | ⟨rfl, rfl⟩ | ⟨rfl, rfl, rfl⟩
      all_goals
        (go_wp2_with fail
         refine (hhead _).mono ?_
         rintro e w9 ⟨rfl, hb9⟩
         go_wp2_with fail
         go_ret
         exact ⟨rfl, Hb1.out.trans ((HM7.out.keep hb9).below.mono Hb1.out.size)⟩)
/-- As the law's arguments lie. -/
theorem swaps_top (c : Cfg) (A : Option Addr) (cap : Nat) (A1 : Option Addr) (cap1 : Nat) (l : List Opx) (x y : Opx) (W : World)
    (hs : Sl 3 viewL W A c.vs) (h1 : c.vs.length ≤ cap) (h2 : cap ≤ maxLen) (hs1 : Sl 25 opL W A1 l) (hok : ∀ o ∈ l, OpOk W o) (h3 : l.length ≤ cap1) (h4 : cap1 ≤ maxLen) (hx : OpOk W x) (hxk : x.c.k.size ≤ maxLen) (hy : OpOk W y) (hyk : y.c.k.size ≤ maxLen) :
    Calls Tryz.prog 7 #[cfgV c A cap, .slice A1 l.length cap1, opV x, opV y] W fun e W' => e = .returned (.bool true) ∧ Below W.heap.size W W' := by
  have hm : maxLen ≤ 9223372036854775807 := by decide
  exact swaps_any c A cap A1 cap1 l x y W hs (by omega) hs1 hok (by omega) hx hxk hy hyk
end Go.Proofs.YtaicecnfodhlcaaGreat
/- How an operation that is an argument by itself lies: its cell's key too. -/
set_option linter.unusedVariables false
set_option linter.unusedSimpArgs false
namespace Go.Proofs.YtaicecnfodhlcaaGreat
open Go.RowKit Go.ChangeShapes Go.WideShapes Go.WideElems Go.Deep
section
variable {H : Type} {enc : TypeId × Value → H} {w : World} {base : Nat} {spare : Nat → Bool} {held : Bool}
theorem cellK_of {fuel : Nat} {cs : List Value} {x : DataW H × List MemPlace} (h : DataW.trod enc Tryz.prog w base spare held fuel 28 cs = some x) : ∃ c : Cell, cs = cellL c ∧ c.k.size ≤ maxLen := by
  obtain ⟨xs, n, _, rfl, hl, hlen, hf⟩ := DataW.trod_struct Tryz.underlying28 h
  rw [show Tryz.prog.cellsOf 28 = 3 by kernel_rfl] at hl
  obtain ⟨c0, c1, c2, rfl⟩ := len3 hl
  obtain ⟨y0, t0⟩ := trod_field hlen hf 0 _ rfl 1 (by kernel_rfl)
  obtain ⟨y1, t1⟩ := trod_field hlen hf 1 _ rfl 1 (by kernel_rfl)
  obtain ⟨y2, t2⟩ := trod_field hlen hf 2 _ rfl 1 (by kernel_rfl)
  obtain ⟨n0, e0, _, _⟩ := DataW.trod_int Tryz.underlying3 t0
  obtain ⟨n1, e1, _, w1⟩ := DataW.trod_string Tryz.underlying9 t1
  obtain ⟨n2, e2, _, _⟩ := DataW.trod_int Tryz.underlying2 t2
  cases e0; cases e1; cases e2
  exact ⟨⟨n0, n1, n2⟩, rfl, w1⟩
theorem opK_of {fuel : Nat} {cs : List Value} {x : DataW H × List MemPlace} (h : DataW.trod enc Tryz.prog w base spare held fuel 41 cs = some x) :
    ∃ o : Opx, cs = opL o ∧ OpOk w o ∧ o.c.k.size ≤ maxLen := by
  obtain ⟨o, rfl, ho⟩ := op_of h
  refine ⟨o, rfl, ho, ?_⟩
  obtain ⟨xs, n, _, _, hl, hlen, hf⟩ := DataW.trod_struct Tryz.underlying41 h
  obtain ⟨y6, t6⟩ := trod_field hlen hf 6 _ rfl 3 (by kernel_rfl)
  obtain ⟨c, e, hk⟩ := cellK_of t6
  have e2 : cellL o.c = cellL c := e
  injection e2 with _ e2
  injection e2 with e2 _
  injection e2 with e2
  rw [e2]
  exact hk
end
end Go.Proofs.YtaicecnfodhlcaaGreat
/- ModelSwaps: the Go function 'spate/spatelaw19.ModelSwaps' returns true and its arguments read afterwards as before, in every world. Conditions: none. -/
set_option linter.unusedVariables false
namespace Go.Proofs.YtaicecnfodhlcaaGreat.modelSwaps
open Go.ChangeShapes Go.WideShapes Go.ChangeAt Go.RowKit Go.ChangeMaps

theorem own : ownKnob Tryz.prog.godebug = none := by kernel_rfl

set_option maxRecDepth 100000 in
theorem contract (H : Type) (enc : TypeId × Value → H) (W : World) (base : Nat) (args : Array Value) (ds gs : List (DataW H)) (before : List MemPlace)
    (hval : ∀ (j : Nat) t v, Tryz.f7.params[j]? = some t → args[j]? = some v → Value.okWide Tryz.prog W .any base t v)
    (hW : DataW.Whole enc Tryz.prog Tryz.f7.params.toList Rows.modelSwapsSpec.vars false W args.toList ds gs before) :
    Calls Tryz.prog 7 args W fun e W' => ∃ v, e = .returned v ∧ Rows.modelSwapsSpec.post enc Tryz.prog Tryz.f7 false true false false W args v W' := by
  have hW' := hW
  obtain ⟨p, q, hA0, hV, rfl, hfz, hnd⟩ := hW
  have hA : DataW.TrodAll enc Tryz.prog W 0 (fun _ => true) true Tryz.f7.params.toList args.toList ds p := hA0
  rw [Tryz.params7] at hA hval
  obtain ⟨v0, vs0, d0, ds0, p0, q0, hargs, rfl, rfl, ⟨n0, h0⟩, r0⟩ := trodAll_cons hA
  obtain ⟨v1, vs1, d1, ds1, p1, q1, rfl, rfl, rfl, ⟨n1, h1⟩, r1⟩ := trodAll_cons r0
  obtain ⟨v2, vs2, d2, ds2, p2, q2, rfl, rfl, rfl, ⟨n2, h2⟩, r2⟩ := trodAll_cons r1
  obtain ⟨v3, vs3, d3, ds3, p3, q3, rfl, rfl, rfl, ⟨n3, h3⟩, r3⟩ := trodAll_cons r2
  obtain ⟨rfl, rfl, rfl⟩ := trodAll_nil r3
  obtain rfl : args = #[v0, v1, v2, v3] := by
    obtain ⟨l⟩ := args
    exact congrArg Array.mk hargs
  obtain ⟨rfl, rfl⟩ := trodVars_none hV
  obtain ⟨⟨a0⟩, rfl, _⟩ := okWide_struct Tryz.underlying24 (hval 0 24 v0 rfl rfl)
  obtain ⟨c0, A0, cap0, e0, hs0, k0, m0⟩ := cfg_of h0
  have e0 : a0 = _ := e0
  subst e0
  obtain ⟨A1, len1, cap1, rfl⟩ := okWide_slice Tryz.underlying25 (hval 1 25 v1 rfl rfl)
  obtain ⟨A1', cap1', l1, e1, hs1, hok1, k1, m1⟩ := ops_of h1
  cases e1
  obtain ⟨⟨a2⟩, rfl, _⟩ := okWide_struct Tryz.underlying41 (hval 2 41 v2 rfl rfl)
  obtain ⟨o2, e2, hok2, hck2⟩ := opK_of h2
  have e2 : a2 = _ := e2
  subst e2
  obtain ⟨⟨a3⟩, rfl, _⟩ := okWide_struct Tryz.underlying41 (hval 3 41 v3 rfl rfl)
  obtain ⟨o3, e3, hok3, hck3⟩ := opK_of h3
  have e3 : a3 = _ := e3
  subst e3
  refine (swaps_top c0 A0 cap0 A1 cap1 l1 o2 o3 W hs0 k0 m0 hs1 hok1 k1 m1 hok2 hck2 hok3 hck3).mono fun e W' ⟨he, hg⟩ => ?_
  subst he
  exact ⟨_, rfl, post_true hW' rfl rfl rfl (by kernel_rfl) (by kernel_rfl) hg⟩

set_option maxRecDepth 100000 in
theorem lifted (os : Os) (started : os.Started) (H : Type) (enc : TypeId × Value → H) :
    ReturnsInHanded {} Tryz.checked os 7 .any (Rows.modelSwapsSpec.pre6 enc Tryz.prog Tryz.f7 Rows.modelSwapsRow.domain false) (Rows.modelSwapsSpec.post enc Tryz.prog Tryz.f7 false true false false) := by
  refine returnsInHanded_of_change (C := Tryz.checked) own started (by kernel_rfl) Tryz.func7
    (ChangeSpec.witness6 (enc := enc) (C := Tryz.checked) false ⟨#[], #[.agg #[.slice none 0 0, .int .i64 0, .int .i64 0, .int .i64 0, .int .i64 0, .int .i64 0, .int .i64 0, .int .i64 0, .int .i64 0, .int .i64 0, .int .i64 0, .int .i64 0], .slice none 0 0, .agg #[.int .i64 0, .bool false, .string .empty, .int .i64 0, .int .i64 0, .bool false, .int .i64 0, .int .i64 0, .int .i64 0, .int .i64 0, .string .empty, .int .i64 0, .int .i64 0, .int .i64 0, .int .i64 0, .int .i64 0, .slice none 0 0, .int .i64 0, .string .empty, .int .i64 0, .int .i64 0, .string .empty, .int .i64 0, .int .i64 0, .int .i64 0], .agg #[.int .i64 0, .bool false, .string .empty, .int .i64 0, .int .i64 0, .bool false, .int .i64 0, .int .i64 0, .int .i64 0, .int .i64 0, .string .empty, .int .i64 0, .int .i64 0, .int .i64 0, .int .i64 0, .int .i64 0, .slice none 0 0, .int .i64 0, .string .empty, .int .i64 0, .int .i64 0, .string .empty, .int .i64 0, .int .i64 0, .int .i64 0]], []⟩ 12 (by kernel_rfl) (by kernel_rfl) (by kernel_rfl) (by kernel_rfl)) ?_
  intro W base args ds gs before hval0 hW hcnd _
  exact contract H enc W base args ds gs before hval0 hW

theorem over : Rows.modelSwapsRow.holds Tryz.pinned (OpenSpec.ofChange Rows.modelSwapsSpec) :=
  OpenClaim.holds_of_wide 7 Tryz.f7 rfl rfl rfl rfl rfl rfl rfl ⟨rfl, rfl, rfl, rfl, rfl⟩ rfl rfl rfl rfl rfl (by kernel_rfl) Tryz.func7 (by kernel_rfl)
    (of_decide_eq_true (by kernel_rfl)) (by unfold Func.isWrapper; first | (rw [if_pos (by decide +kernel)]; kernel_rfl) | (rw [if_neg (by decide +kernel)]; exact ⟨rfl, rfl⟩))
    (fun os started H enc _ => lifted os started H enc)

theorem proved : Rows.ModelSwapsSaid :=
  over
#print axioms proved
end Go.Proofs.YtaicecnfodhlcaaGreat.modelSwaps
