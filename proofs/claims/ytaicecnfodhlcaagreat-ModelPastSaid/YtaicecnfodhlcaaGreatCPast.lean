/- An append that stays in its row or moves into a new block. -/
import Derived.Test.YtaicecnfodhlcaaGreatJ21
import Derived.Maps.AppendAt
import Derived.Test.YtaicecnfodhlcaaGreatJ03
import Derived.Deep.MidRow
import Derived.Test.YtaicecnfodhlcaaGreatJ22
import Derived.Test.YtaicecnfodhlcaaGreatJ10
import Derived.Test.YtaicecnfodhlcaaGreatJ23
import Derived.Test.YtaicecnfodhlcaaGreatJ20
import Derived.Test.YtaicecnfodhlcaaGreatJ18
import Derived.Deep.CutBlock
import Derived.Deep.DeepCutAuto
import Derived.Test.YtaicecnfodhlcaaGreatJ02
set_option linter.unusedVariables false
set_option linter.unusedSimpArgs false
namespace Go.Proofs.YtaicecnfodhlcaaGreat
open Go.RowKit

/-- append of at least one element: the new slice lies in the old row, or in a new block and nothing that was there has turned. -/
theorem run_app2 {P : Program} (w : World) (base t ty e : Nat) (i : TypeInfo) (z : Value) (size bytes : Nat) (ht : P.underlying t = some (.slice e)) (hi : P.info? e = some i) (hz : i.zero = some z)
    (hsize : i.size = size) (hby : i.bytes = bytes) (hzs : z.cells.size = size) (hsz : 0 < size) (v : Value) (n : Nat) (xs : List Value) (hown : w.ownsRow base e size v n xs)
    (a : Addr) (m c : Nat) (h0 : 0 < m) (news : List Value) (hl : news.length = m * size) (hnews : ∀ j u, news[j]? = some u → w.cell? (a.add j) = some u) (h1 : ∀ u ∈ news, u.oneCell' = true)
    (h63 : n + m ≤ maxLen) (hbytes : (n + m) * bytes ≤ 140737488355328) (hbase : base ≤ w.heap.size) :
    ∃ v' w', (Builtin.append_ #[t, t] ty #[v, .slice (some a) m c]).run P w = .ok v' w' ∧ w'.ownsRow base e size v' (n + m) (xs ++ news) ∧
      ((v'.ownBlock = v.ownBlock ∧ v.ownBlock ≠ none ∧ w.grownBy w' v.ownBlock) ∨ (v'.ownBlock = some w.heap.size ∧ w.grownBy w' none)) := by
  have hsm : n + m ≤ 9223372036854775807 := by unfold maxLen at h63; omega
  obtain ⟨v', w', hr, h2, h3, h4, h5⟩ := run_append_own_at (P := P) w base t ty e i z size bytes ht hi hz hsize hby hzs hsz v n xs hown a m c news hl hnews h1 h63 hbytes hbase
  refine ⟨v', w', hr, h2, ?_⟩
  have hnone : ∀ o : Obj, w.grownBy (w.drew.alloc o) none := fun o => ⟨rfl, rfl, rfl, by simp, fun k hk _ => Below.heap_alloc w.drew o k hk⟩
  rcases hown.2 with ⟨rfl, rfl⟩ | ⟨g, cap, cur, rfl, hbg, hg, hnc, hcm, hcs, htake⟩
  · have hr2 := run_append_nil (P := P) w t ty e i z ht hi hz a m c news (by rw [hl, hsize]) hnews h0 (by omega) (by rw [hby]; simp at hbytes; omega)
    rw [hr2] at hr
    cases hr
    exact .inr ⟨rfl, hnone _⟩
  · by_cases hroom : n + m ≤ cap
    · have hr2 := run_append_room (P := P) w t ty e i ht hi g n cap cur hg a m c news (by rw [hl, hsize]) hnews h1 hroom (by rw [hl, hcs, hsize, ← Nat.add_mul]; exact Nat.mul_le_mul_right _ hroom)
      rw [hr2] at hr
      cases hr
      exact .inl ⟨rfl, by simp [Value.ownBlock], h3⟩
    · have hr2 := run_append_grow (P := P) w t ty e i z ht hi hz ⟨g, 0, none⟩ n cap xs (by rw [hown.1, hsize]) (hown.cells (g := g) rfl) a m c news (by rw [hl, hsize]) hnews (by omega) (by omega) (growslice_fits (by omega) (by rw [hby]; exact hbytes))
      rw [hr2] at hr
      cases hr
      exact .inr ⟨rfl, hnone _⟩

/-- The builtin append of elements onto a slice of the call's own, with where it lies. -/
theorem wpList_app2 {α : Type} {P : Program} {ops : Array Oper} {Q : Exit → Act → World → Prop} {a : Act} {w : World} {rest : List Oper} {o : Oper} {t e sz bytes : Nat} (K : SlT P t e sz bytes)
    (hgd : o.guard = none) (s x : Operand) (ho : o.op = .call { callee := .builtin .append, args := #[s, x], argTypes := #[t, t] })
    (enc : α → List Value) (hz : ∀ x, (enc x).length = sz) (h1 : Cells1 enc) (B : Nat) (v : Value) (xs : List α) (hs : a.eval s = v) (hown : Own e sz enc B w v xs)
    (b off : Nat) (m c : Nat) (ys : List α) (hx : a.eval x = .slice (some ⟨b, off, none⟩) m c) (hm : m = ys.length) (h0 : 0 < m) (hsl : Sl sz enc w (some ⟨b, off, none⟩) ys) (hmax : xs.length + ys.length ≤ 1000000000) (hby : bytes ≤ 1024) (hB : B ≤ w.heap.size)
    (h : ∀ v' w', Own e sz enc B w' v' (xs ++ ys) → ((v'.ownBlock = v.ownBlock ∧ v.ownBlock ≠ none ∧ w.grownBy w' v.ownBlock) ∨ (v'.ownBlock = some w.heap.size ∧ w.grownBy w' none)) → wpList P ops Q rest (a.put o.dst v') w') : wpList P ops Q (o :: rest) a w := by
  subst hm
  obtain ⟨ht, hsz, i, z, hi, hz0, hsize, hbytes, hzs⟩ := K
  have hb : (xs.length + ys.length) * bytes ≤ 140737488355328 := Nat.le_trans (Nat.mul_le_mul hmax hby) (by omega)
  have hm : xs.length + ys.length ≤ maxLen := by unfold maxLen; omega
  obtain ⟨v', w', hr, h2, h3⟩ := run_app2 (P := P) w B t o.type e i z sz bytes ht hi hz0 hsize hbytes hzs hsz v xs.length (xs.flatMap enc) hown ⟨b, off, none⟩ ys.length c h0 (ys.flatMap enc) (flat_length hz ys) (hsl.flat hz) (fun u hu => by obtain ⟨y, _, hy⟩ := List.mem_flatMap.1 hu; exact h1 y u hy) hm hb hB
  refine wpList_plain hgd fun K' hK => ?_
  unfold Oper.wp execOp
  simp only [ho, resolve, invoke, builtin, Sem.run_bind, Sem.run_pure, Result.andThen_ok, List.map_toArray, List.map_cons, List.map_nil, hs, hx, hr]
  refine hK _ _ (h v' w' ?_ h3)
  unfold Own; simpa using h2

end Go.Proofs.YtaicecnfodhlcaaGreat
/- over: rows of the law's own are written over. -/
set_option linter.unusedVariables false
set_option linter.unusedSimpArgs false
namespace Go.Proofs.YtaicecnfodhlcaaGreat
open Go.RowKit Go.Deep

theorem chg_setCells (b : Nat) : ∀ (vs : List Value) (o : Nat) (w : World), Chg [b] w (w.setCells b o vs)
  | [], _, w => ⟨rfl, rfl, rfl, Nat.le_refl _, fun _ _ _ => rfl⟩
  | v :: r, o, w => by
    rw [World.setCells]
    exact (Chg.set w (a := ⟨b, o, none⟩) (by simp) v).trans (chg_setCells b r (o + 1) _)
/-- Room for so many rows. -/
def Room (w : World) (g n : Nat) : Prop := ∀ j, j < n * 7 → (w.cell? ⟨g, j, none⟩).isSome = true ∧ w.frozen? ⟨g, j, none⟩ = false
theorem Own.room {w : World} {E g n cap : Nat} {xs : List Rw} (h : Own 93 7 rowL E w (.slice (some ⟨g, 0, none⟩) n cap) xs) : Room w g xs.length := by
  intro j hj
  refine ⟨?_, h.frozen j⟩
  have hi : j / 7 < xs.length := by omega
  obtain ⟨b, off, e, _, hc⟩ := (h.sl0 (fun _ => rfl)) (j / 7) hi
  injection e with e
  injection e with e1 e2
  subst e1
  subst e2
  have hl : j % 7 < (rowL xs[j / 7]).length := Nat.mod_lt _ (by omega)
  have h1 := hc (j % 7) _ (List.getElem?_eq_getElem hl)
  have e3 : 0 + j / 7 * 7 + j % 7 = j := by omega
  rw [e3] at h1
  rw [h1]
  rfl
theorem Room.mono {w : World} {g n m : Nat} (h : Room w g n) (hm : m ≤ n) : Room w g m := fun j hj => h j (by have : m * 7 ≤ n * 7 := Nat.mul_le_mul_right 7 hm; omega)
theorem Room.set {w : World} {g n : Nat} (h : Room w g n) (b o : Nat) (vs : List Value) : Room (w.setCells b o vs) g n := fun j hj => ⟨World.isSome_setCells b vs o w _ (h j hj).1, by rw [World.frozen?_setCells]; exact (h j hj).2⟩
theorem Room.keep {w w' : World} {g n : Nat} (h : Room w g n) (hb : w'.heap[g]? = w.heap[g]?) : Room w' g n := fun j hj => by
  have h1 := h j hj
  rw [World.cell?_of_block (a := ⟨g, j, none⟩) hb, World.frozen?_of_block (a := ⟨g, j, none⟩) hb]
  exact h1
theorem Room.at {w : World} {g n : Nat} (h : Room w g n) {i : Nat} (hi : i < n) : World.there w g (0 + i * 7) 7 := fun j hj => by
  have := h (0 + i * 7 + j) (by omega)
  exact this
theorem Room.atN {w : World} {g n : Nat} (h : Room w g n) {i : Nat} (hi : i < n) {k o : Nat} (hk : k = 7) (ho : o = i * 7) : World.there w g o k := by
  subst hk
  subst ho
  intro j hj
  exact h (i * 7 + j) (by omega)
/-- A row of zeroes but for its view. -/
abbrev rowN (n : Int) : Rw := ⟨⟨n, ByteArray.empty, 0⟩, ⟨0, 0, 0, 0⟩⟩
theorem ChgP.sub {p : Nat → Prop} {a b c : World} (h : ChgP p a b) {l : List Nat} (k : Chg l b c) (hl : ∀ g ∈ l, p g ∨ a.heap.size ≤ g) : ChgP p a c := h.late (ChgP.of k) hl
set_option maxRecDepth 100000 in
set_option maxHeartbeats 4000000 in
theorem over_any (v : Value) (xs : List Rw) (E : Nat) (w : World) (hown : Own 93 7 rowL E w v xs) (hl : xs.length ≤ 100000000) :
    Calls Tryz.prog 30 #[v] w fun e w' => e = .returned (.tuple #[]) ∧ ChgP (fun g => v.ownBlock = some g) w w' := by
  obtain ⟨oa, oc, rfl, _⟩ := hown.sl fun _ => rfl
  have hz : ∀ o : Obj, (w.alloc o).heap.size = w.heap.size + 1 := fun o => by simp
  have hb1 : ∀ o : Obj, Below w.heap.size w (w.alloc o) := fun o => (Below.refl _ _).alloc (Nat.le_refl _) o
  have hown1 := fun o => (hown.below (hb1 o)).mono (Nat.zero_le E)
  have hsl : Sl 7 rowL (w.alloc (.cells #[.int .i64 0, .string ByteArray.empty, .int .i64 0, .int .i64 0, .int .i64 0, .int .i64 0, .int .i64 0, .int .i64 0, .string ByteArray.empty, .int .i64 0, .int .i64 0, .int .i64 0, .int .i64 0, .int .i64 0] 93)) (some ⟨w.heap.size, 0, none⟩) [rowN 0, rowN 0] := by
    have hg : (w.alloc (.cells #[.int .i64 0, .string ByteArray.empty, .int .i64 0, .int .i64 0, .int .i64 0, .int .i64 0, .int .i64 0, .int .i64 0, .string ByteArray.empty, .int .i64 0, .int .i64 0, .int .i64 0, .int .i64 0, .int .i64 0] 93)).heap[w.heap.size]? = _ := blk_at rfl
    intro i hi
    refine ⟨w.heap.size, 0, rfl, by simp, fun j u hu => ?_⟩
    rw [cell_blk hg]
    have hj : j < 7 := by
      have := (List.getElem?_eq_some_iff.1 hu).1
      match i, hi with
      | 0, _ => exact this
      | 1, _ => exact this
    match i, hi, j, hj with
    | 0, _, 0, _ => exact hu
    | 0, _, 1, _ => exact hu
    | 0, _, 2, _ => exact hu
    | 0, _, 3, _ => exact hu
    | 0, _, 4, _ => exact hu
    | 0, _, 5, _ => exact hu
    | 0, _, 6, _ => exact hu
    | 1, _, 0, _ => exact hu
    | 1, _, 1, _ => exact hu
    | 1, _, 2, _ => exact hu
    | 1, _, 3, _ => exact hu
    | 1, _, 4, _ => exact hu
    | 1, _, 5, _ => exact hu
    | 1, _, 6, _ => exact hu
  have Hown := Lib.hid hown
  have Hown1 := Lib.hid hown1
  have Hb1 := Lib.hid hb1
  have Hz := Lib.hid hz
  have Hsl := Lib.hid hsl
  clear hown hown1 hb1 hz hsl
  go_enter Tryz.func30, Tryz.ntmps30
  go_wp2_with (at_builtin; (refine wpList_app2 st_rowG rfl _ _ rfl rowL (fun _ => rfl) cells1_row 0 _ xs rfl (Hown1.out _) w.heap.size 0 2 2 [rowN 0, rowN 0] rfl rfl (by decide) Hsl.out (by show xs.length + 2 ≤ _; omega) (by decide) (Nat.zero_le _) ?_))
  intro v' w2 hown2 hv2
  obtain ⟨oa2, oc2, rfl, _⟩ := hown2.sl fun _ => rfl
  have hlen : (xs ++ [rowN 0, rowN 0]).length = xs.length + 2 := by simp
  have hroom := hown2.pos (by rw [hlen]; omega)
  obtain ⟨g2, rfl, _, hg2lt⟩ := hroom
  have hroom := hown2.room
  rw [hlen] at hroom
  have hall : ChgP (fun g => (Value.slice oa xs.length oc).ownBlock = some g) w w2 ∧ (∀ g, oa = some ⟨g, 0, none⟩ → Room w2 g xs.length ∧ (Value.slice oa xs.length oc).ownBlock = some g) ∧ ((Value.slice oa xs.length oc).ownBlock = some g2 ∨ w.heap.size ≤ g2) := by
    rcases hv2 with ⟨e1, e2, e3⟩ | ⟨e1, e3⟩
    · refine ⟨⟨e3.os, e3.tape, e3.output, by have := e3.size; rw [Hz.out] at this; omega, fun g hg hn => ?_⟩, fun g e => ?_, Or.inl e1.symm⟩
      · rw [e3.block g (by rw [Hz.out]; omega) (fun e => hn e.symm)]
        exact (Hb1.out _).block g hg
      · subst e
        have e4 : g2 = g := by
          have h1 : some g2 = some g := e1
          injection h1
        subst e4
        exact ⟨hroom.mono (by omega), rfl⟩
    · refine ⟨⟨e3.os, e3.tape, e3.output, by have := e3.size; rw [Hz.out] at this; omega, fun g hg _ => ?_⟩, fun g e => ?_, ?_⟩
      · rw [e3.block g (by rw [Hz.out]; omega) (fun e => nomatch e)]
        exact (Hb1.out _).block g hg
      · subst e
        have hgl := (Hown.out.ge (g := g) rfl).2
        refine ⟨Hown.out.room.keep ?_, rfl⟩
        rw [e3.block g (by rw [Hz.out]; omega) (fun e => nomatch e)]
        exact (Hb1.out _).block g hgl
      · have h1 : some g2 = some _ := e1
        injection h1 with h1
        right
        first | omega | (rw [Hz.out] at h1; omega)
  obtain ⟨hch, hra, hg2⟩ := hall
  have Hch := Lib.hid hch
  have Hra := Lib.hid hra
  have Hroom := Lib.hid hroom
  have Hg2 := Lib.hid hg2
  rw [hlen]
  clear hown2 hv2 hlen hroom hch hra hg2
  go_wp2_with fail
  go_loopg [3] (xs.length + 2) (fun g i wr => ∃ j : Nat, j + g = xs.length + 2 ∧ i = .int .i64 j ∧ Room wr g2 (xs.length + 2) ∧ (∀ g, oa = some ⟨g, 0, none⟩ → Room wr g xs.length) ∧ ChgP (fun g => (Value.slice oa xs.length oc).ownBlock = some g) w wr)
  case atStart => exact ⟨0, by omega, rfl, Hroom.out, fun g e => (Hra.out g e).1, Hch.out⟩
  case round =>
    obtain ⟨j, hj, rfl, hr2, hro, hc⟩ := hrel
    have Hj := Lib.hid hj
    have Hr2 := Lib.hid hr2
    have Hro := Lib.hid hro
    have Hc := Lib.hid hc
    clear hj hr2 hro hc
    by_cases hlt : j < xs.length + 2
    · have hjl : (j : Int) < (xs.length : Int) + 2 := by omega
      go_wp2_with (refine wpList_store_mid rfl 93 _ _ rfl g2 ?oo ?cc ?hx ?hy ?ht ?hi ?h1 ?hrest; (case hx => exact rfl); (case hy => exact rfl); (case ht => exact Hr2.out.atN hlt rfl rfl); (case hi => kernel_rfl); (case h1 => kernel_rfl))
      go_roundg (gk - 1)
      case measure => have := Hj.out; omega
      case rel => exact ⟨j + 1, by have := Hj.out; omega, by go_num, Hr2.out.set _ _ _, fun g e => (Hro.out g e).set _ _ _, Hc.out.sub (chg_setCells _ _ _ _) (fun g hg => by rw [List.mem_singleton.1 hg]; exact Hg2.out)⟩
    · have hjn : j = xs.length + 2 := by have := Hj.out; omega
      subst hjn
      go_wp2_with fail
      go_loopg [4] xs.length (fun g i wr => ∃ j : Nat, j + g = xs.length ∧ i = .int .i64 j ∧ (∀ g, oa = some ⟨g, 0, none⟩ → Room wr g xs.length) ∧ ChgP (fun g => (Value.slice oa xs.length oc).ownBlock = some g) w wr)
      case atStart => exact ⟨0, by omega, rfl, Hro.out, Hc.out⟩
      case round =>
        obtain ⟨j, hj, rfl, hro, hc⟩ := hrel
        have Hj2 := Lib.hid hj
        have Hro2 := Lib.hid hro
        have Hc2 := Lib.hid hc
        clear hj hro hc
        by_cases hlt : j < xs.length
        · have hjl : (j : Int) < (xs.length : Int) := by omega
          obtain ⟨g, rfl, _, _⟩ := Hown.out.pos (by omega)
          have hrg := Lib.hid (Hro2.out g rfl)
          go_wp2_with (refine wpList_store_mid rfl 93 _ _ rfl g ?ooB ?ccB ?hxB ?hyB ?htB ?hiB ?h1B ?hrestB; (case hxB => exact rfl); (case hyB => exact rfl); (case htB => exact hrg.out.atN hlt rfl rfl); (case hiB => kernel_rfl); (case h1B => kernel_rfl))
          go_roundg (gk - 1)
          case measure => have := Hj2.out; omega
          case rel => exact ⟨j + 1, by have := Hj2.out; omega, by go_num, fun g e => (Hro2.out g e).set _ _ _, Hc2.out.sub (chg_setCells _ _ _ _) (fun g hg => by rw [List.mem_singleton.1 hg]; exact Or.inl rfl)⟩
        · have hjn : j = xs.length := by have := Hj2.out; omega
          subst hjn
          go_wp2_with fail
          go_end0
          exact ⟨rfl, Hc2.out⟩
end Go.Proofs.YtaicecnfodhlcaaGreat
/- SameResponse: where both are the same. -/
set_option linter.unusedVariables false
set_option linter.unusedSimpArgs false
namespace Go.Proofs.YtaicecnfodhlcaaGreat
open Go.RowKit Go.Deep

set_option maxRecDepth 100000 in
set_option maxHeartbeats 2000000 in
theorem equalRows_any (a : Option Addr) (ca : Nat) (xs : List Rw) (b : Option Addr) (cb : Nat) (w : World) (hx : Sl 7 rowL w a xs) (hy : Sl 7 rowL w b xs) (hm : xs.length ≤ 9223372036854775807) :
    Calls Tryz.prog 86 #[.slice a xs.length ca, .slice b xs.length cb] w fun e w' => e = .returned (.bool true) ∧ Below w.heap.size w w' := by
  go_enter Tryz.func86, Tryz.ntmps86
  go_wp2_with fail
  go_loopg [5, 13] xs.length (fun g _ i wr => ∃ j : Nat, j + g = xs.length ∧ i = .int .i64 j ∧ Below w.heap.size w wr)
  case atStart => exact ⟨0, by omega, rfl, Below.refl _ _⟩
  case round =>
    obtain ⟨j, hj, rfl, hb⟩ := hrel
    have Hj := Lib.hid hj
    clear hj
    by_cases hlt : j < xs.length
    · obtain ⟨xb, xo, rfl, hxb, x0, x1, x2, x3, x4, x5, x6⟩ := hx.at7 hlt
      obtain ⟨yb, yo, rfl, hyb, y0, y1, y2, y3, y4, y5, y6⟩ := hy.at7 hlt
      have d0 := (hb.cell (p := ⟨xb, _, none⟩) hxb).trans x0
      have d1 := (hb.cell (p := ⟨xb, _, none⟩) hxb).trans x1
      have d2 := (hb.cell (p := ⟨xb, _, none⟩) hxb).trans x2
      have d3 := (hb.cell (p := ⟨xb, _, none⟩) hxb).trans x3
      have d4 := (hb.cell (p := ⟨xb, _, none⟩) hxb).trans x4
      have d5 := (hb.cell (p := ⟨xb, _, none⟩) hxb).trans x5
      have d6 := (hb.cell (p := ⟨xb, _, none⟩) hxb).trans x6
      have f0 := (hb.cell (p := ⟨yb, _, none⟩) hyb).trans y0
      have f1 := (hb.cell (p := ⟨yb, _, none⟩) hyb).trans y1
      have f2 := (hb.cell (p := ⟨yb, _, none⟩) hyb).trans y2
      have f3 := (hb.cell (p := ⟨yb, _, none⟩) hyb).trans y3
      have f4 := (hb.cell (p := ⟨yb, _, none⟩) hyb).trans y4
      have f5 := (hb.cell (p := ⟨yb, _, none⟩) hyb).trans y5
      have f6 := (hb.cell (p := ⟨yb, _, none⟩) hyb).trans y6
      have hne := fun W => run_neq_row xs[j] xs[j] W
      have hjl : (j : Int) < (xs.length : Int) := by omega
      clear x0 y0 x1 y1 x2 y2 x3 y3 x4 y4 x5 y5 x6 y6
      simp only [decide_true, Bool.not_true] at hne
      unfold rowA at hne
      generalize xs[j].cell.v = p0 at *
      generalize xs[j].cell.k = p1 at *
      generalize xs[j].cell.s = p2 at *
      generalize xs[j].agg.c = p3 at *
      generalize xs[j].agg.s = p4 at *
      generalize xs[j].agg.mn = p5 at *
      generalize xs[j].agg.mx = p6 at *
      go_wp2_with fail
      go_quiet (fail)
      go_wp2_with fail
      go_roundg (gk - 1)
      case measure => have := Hj.out; omega
      case rel => exact ⟨j + 1, by have := Hj.out; omega, by go_num, Below.drewN hb _⟩
    · have hjl : ¬ (j : Int) < (xs.length : Int) := by omega
      go_wp2_with fail
      go_ret
      exact ⟨rfl, hb⟩
set_option maxRecDepth 100000 in
set_option maxHeartbeats 4000000 in
theorem sameRsp_any (k i er ep t l o f c n : Int) (a1 : Option Addr) (c1 : Nat) (a2 : Option Addr) (c2 : Nat) (xs : List Rw) (w : World) (hx : Sl 7 rowL w a1 xs) (hy : Sl 7 rowL w a2 xs) (hm : xs.length ≤ 9223372036854775807) :
    Calls Tryz.prog 31 #[.agg #[.int .i64 k, .int .i64 i, .int .i64 er, .int .i64 ep, .slice a1 xs.length c1, .int .i64 t, .int .i64 l, .int .i64 o, .int .i64 f, .int .i64 c, .int .i64 n], .agg #[.int .i64 k, .int .i64 i, .int .i64 er, .int .i64 ep, .slice a2 xs.length c2, .int .i64 t, .int .i64 l, .int .i64 o, .int .i64 f, .int .i64 c, .int .i64 n]] w fun e w' => e = .returned (.bool true) ∧ Below w.heap.size w w' := by
  have hb1 : Below w.heap.size w ((w.alloc (.cells #[.int .i64 k, .int .i64 i, .int .i64 er, .int .i64 ep, .slice a1 xs.length c1, .int .i64 t, .int .i64 l, .int .i64 o, .int .i64 f, .int .i64 c, .int .i64 n] 50)).alloc (.cells #[.int .i64 k, .int .i64 i, .int .i64 er, .int .i64 ep, .slice a2 xs.length c2, .int .i64 t, .int .i64 l, .int .i64 o, .int .i64 f, .int .i64 c, .int .i64 n] 50)) := ((Below.refl _ _).alloc (Nat.le_refl _) _).alloc (by simp) _
  have r1 : ((w.alloc (.cells #[.int .i64 k, .int .i64 i, .int .i64 er, .int .i64 ep, .slice a1 xs.length c1, .int .i64 t, .int .i64 l, .int .i64 o, .int .i64 f, .int .i64 c, .int .i64 n] 50)).alloc (.cells #[.int .i64 k, .int .i64 i, .int .i64 er, .int .i64 ep, .slice a2 xs.length c2, .int .i64 t, .int .i64 l, .int .i64 o, .int .i64 f, .int .i64 c, .int .i64 n] 50)).heap[w.heap.size]? = some (.cells #[.int .i64 k, .int .i64 i, .int .i64 er, .int .i64 ep, .slice a1 xs.length c1, .int .i64 t, .int .i64 l, .int .i64 o, .int .i64 f, .int .i64 c, .int .i64 n] 50 (0, 0)) := (blk_old (by simp)).trans (blk_at rfl)
  have r2 : ((w.alloc (.cells #[.int .i64 k, .int .i64 i, .int .i64 er, .int .i64 ep, .slice a1 xs.length c1, .int .i64 t, .int .i64 l, .int .i64 o, .int .i64 f, .int .i64 c, .int .i64 n] 50)).alloc (.cells #[.int .i64 k, .int .i64 i, .int .i64 er, .int .i64 ep, .slice a2 xs.length c2, .int .i64 t, .int .i64 l, .int .i64 o, .int .i64 f, .int .i64 c, .int .i64 n] 50)).heap[w.heap.size + 1]? = some (.cells #[.int .i64 k, .int .i64 i, .int .i64 er, .int .i64 ep, .slice a2 xs.length c2, .int .i64 t, .int .i64 l, .int .i64 o, .int .i64 f, .int .i64 c, .int .i64 n] 50 (0, 0)) := blk_at (by simp)
  have heq := equalRows_any a1 c1 xs a2 c2 _ (hx.below hb1) (hy.below hb1) hm
  have hst := fun W => run_eql_stats t l o f c n t l o f c n W
  simp only [decide_true] at hst
  have Hb1 := Lib.hid hb1
  have R1 := Lib.hid r1
  have R2 := Lib.hid r2
  clear hb1 r1 r2 hx hy hm
  go_enter Tryz.func31, Tryz.ntmps31
  go_wp2_with fail
  refine heq.mono ?_
  rintro e w1 ⟨rfl, hb⟩
  have r1 := (hb.block _ (lt_of_block R1.out)).trans R1.out
  have r2 := (hb.block _ (lt_of_block R2.out)).trans R2.out
  have p5 := cell_blk r1 5
  have q5 := cell_blk r2 5
  have p6 := cell_blk r1 6
  have q6 := cell_blk r2 6
  have p7 := cell_blk r1 7
  have q7 := cell_blk r2 7
  have p8 := cell_blk r1 8
  have q8 := cell_blk r2 8
  have p9 := cell_blk r1 9
  have q9 := cell_blk r2 9
  have p10 := cell_blk r1 10
  have q10 := cell_blk r2 10
  simp at p5 q5 p6 q6 p7 q7 p8 q8 p9 q9 p10 q10
  have Hb := Lib.hid (Hb1.out.trans (hb.mono Hb1.out.size))
  clear hb heq r1 r2
  go_wp2_with fail
  go_ret
  exact ⟨rfl, Hb.out⟩
end Go.Proofs.YtaicecnfodhlcaaGreat
/- Two models that are the law's own; rows and blocks that the law holds beside them. -/
set_option linter.unusedVariables false
set_option linter.unusedSimpArgs false
namespace Go.Proofs.YtaicecnfodhlcaaGreat
open Go.RowKit Go.Deep

theorem Mine.act2 {w0 w : World} {mp : Nat} {B : MB} {T : Mst} {n : Nat} (h : Mine w0 w mp B T n) (hn : n ≤ 99999) (x : Opx) (hx : OpOk w x) (hs : x.q.cells.length ≤ 100) :
    Calls Tryz.prog 14 #[.pointer (some ⟨mp, 0, none⟩), opV x] w fun e w' => e = .returned (.tuple #[]) ∧ ∃ B', Mine w0 w' mp B' (T.act x) (n + 1) ∧ Turn w w' B B' := by
  have hc := act_any h.md h.few (by omega) x hx hs
  rw [h.mp] at hc
  refine hc.mono ?_
  rintro e w' ⟨rfl, B', hM, hT⟩
  exact ⟨rfl, B', h.turn hM hT (h.few.act h.md.inv x), hT⟩
theorem Mine.at {w0 w : World} {mp : Nat} {B : MB} {T : Mst} {n : Nat} (h : Mine w0 w mp B T n) (hn : n ≤ 100000) (x : Int) :
    Calls Tryz.prog 23 #[.pointer (some ⟨mp, 0, none⟩), .int .i64 x] w fun e w' => ∃ v, e = .returned (.tuple #[v, .bool (T.seals x).isSome]) ∧ Own 93 7 rowL w.heap.size w' v ((T.seals x).getD []) ∧ Below w.heap.size w w' := by
  have hc := mAt_any h.md x (h.maxE hn x)
  rw [h.mp] at hc
  exact hc
theorem Mine.leave {w0 w : World} {mp : Nat} {B : MB} {T : Mst} {n : Nat} (h : Mine w0 w mp B T n) (hn : n ≤ 99999) (s : Int) :
    Calls Tryz.prog 24 #[.pointer (some ⟨mp, 0, none⟩), .int .i64 s] w fun e w' => e = .returned (.int .i64 (T.heldN s)) ∧ Mine w0 w' mp B (T.leave s) n ∧ Turn w w' B B := by
  have hc := leave_full h.md s (by have := h.few.now; omega)
  rw [h.mp] at hc
  refine hc.mono ?_
  rintro e w' ⟨rfl, hM, hT⟩
  exact ⟨rfl, h.turn hM hT (h.few.leave s), hT⟩
/-- A scan at an epoch changes nothing. -/
theorem Mst.scan_same (S : Mst) (s : Int) (q : Rq) (r : Int) (hk : q.k = 3) (hep : q.ep ≠ 0) : (S.ask s q r).1 = S := by
  unfold Mst.ask
  split; · rfl
  split; · rfl
  split; · rfl
  split; · rfl
  rw [answered_fst]
  unfold Mst.inner
  rw [if_neg (by omega), if_neg (by omega), if_neg (by omega), if_neg (by omega)]
  unfold Mst.read
  split
  · rfl
  · rw [if_pos hk, if_neg hep]
theorem Mst.scan_rows (S : Mst) (s : Int) (q : Rq) (r : Int) (hk : q.k = 3) : (S.ask s q r).2.2.rows.length ≤ q.lim.toNat := by
  unfold Mst.ask
  split; · exact Nat.zero_le _
  split; · exact Nat.zero_le _
  split; · exact Nat.zero_le _
  split; · exact Nat.zero_le _
  unfold answered
  split
  · unfold Mst.inner
    rw [if_neg (by omega), if_neg (by omega), if_neg (by omega), if_neg (by omega)]
    unfold Mst.read
    split
    · exact Nat.zero_le _
    · rw [if_pos hk]
      split
      · split
        · exact Nat.zero_le _
        · exact List.length_take_le _ _
      · exact List.length_take_le _ _
  · exact Nat.zero_le _
theorem Mine.scan {w0 w : World} {mp : Nat} {B : MB} {T : Mst} {n : Nat} (h : Mine w0 w mp B T n) (hn : n ≤ 99999) (s : Int) (q : Rq) (qa : Option Addr) (qc : Nat) (r : Int) (hq : Sl 3 cellL w qa q.cells) (hl : q.cells.length ≤ 100000000) (hk : q.k = 3) (hep : q.ep ≠ 0) :
    Calls Tryz.prog 18 #[.pointer (some ⟨mp, 0, none⟩), .int .i64 s, .agg (q.at qa qc), .int .i64 r] w fun e w' => ∃ v B', e = .returned (.tuple #[.agg ((T.ask s q r).2.2.at v), .int .i64 (T.ask s q r).2.1]) ∧ Own 93 7 rowL w.heap.size w' v (T.ask s q r).2.2.rows ∧ Mine w0 w' mp B' T n ∧ Turn w w' B B' ∧ ∀ g, v.ownBlock = some g → B'.lab g = .no := by
  have hc := ask_any h.md s q qa qc r hq hl (h.max (by omega)) (h.maxE (by omega) _)
  rw [h.mp] at hc
  refine hc.mono ?_
  rintro e w' ⟨v, B', rfl, ho, hM, hT, hv⟩
  rw [T.scan_same s q r hk hep] at hM
  exact ⟨v, B', rfl, ho, h.turn hM hT h.few, hT, hv⟩

/-- Two models apart. -/
structure Two (W1 w : World) (mp : Nat) (B : MB) (T : Mst) (n : Nat) (mp2 : Nat) (B2 : MB) (T2 : Mst) : Prop where
  m : Mine W1 w mp B T n
  o : Mine W1 w mp2 B2 T2 0
  dis : ∀ g, B2.lab g ≠ .no → B.lab g = .no
theorem Two.turn {W1 w w' : World} {mp : Nat} {B B' : MB} {T T' : Mst} {n n' : Nat} {mp2 : Nat} {B2 : MB} {T2 : Mst} (h : Two W1 w mp B T n mp2 B2 T2) (hM : Mine W1 w' mp B' T' n') (hT : Turn w w' B B') : Two W1 w' mp B' T' n' mp2 B2 T2 :=
  ⟨hM, ⟨h.o.md.keep hT.chg.size fun g hg => (hT.away (h.dis g hg) (h.o.md.lt g hg)).2, h.o.mp, h.o.few, h.o.low, hM.below⟩, fun g hg => (hT.away (h.dis g hg) (h.o.md.lt g hg)).1⟩
theorem Two.keep {W1 w w' : World} {mp : Nat} {B : MB} {T : Mst} {n : Nat} {mp2 : Nat} {B2 : MB} {T2 : Mst} (h : Two W1 w mp B T n mp2 B2 T2) (hb : Below w.heap.size w w') : Two W1 w' mp B T n mp2 B2 T2 :=
  ⟨h.m.keep hb, h.o.keep hb, h.dis⟩
theorem Mine.chgP {w0 w w' : World} {mp : Nat} {B : MB} {T : Mst} {n : Nat} (h : Mine w0 w mp B T n) {p : Nat → Prop} (hc : ChgP p w w') (hl : ∀ g, p g → B.lab g = .no ∧ w0.heap.size ≤ g) : Mine w0 w' mp B T n :=
  ⟨h.md.keep hc.size fun g hg => hc.block g (h.md.lt g hg) (fun hm => hg (hl g hm).1), h.mp, h.few, h.low, h.below.trans ⟨hc.os, hc.tape, hc.output, hc.size, fun g hg => hc.block g (Nat.lt_of_lt_of_le hg h.below.size) (fun hm => by have := (hl g hm).2; omega)⟩⟩
/-- Rows that the law holds. -/
structure Kept (w : World) (B B2 : MB) (lo : Nat) (v : Value) (xs : List Rw) : Prop where
  own : Own 93 7 rowL lo w v xs
  no : ∀ g, v.ownBlock = some g → B.lab g = .no ∧ B2.lab g = .no
theorem Kept.turn {w w' : World} {B B' B2 : MB} {lo : Nat} {v : Value} {xs : List Rw} (h : Kept w B B2 lo v xs) (hT : Turn w w' B B') : Kept w' B' B2 lo v xs :=
  ⟨h.own.turn hT fun g hg => (h.no g hg).1, fun g hg => ⟨(hT.away (h.no g hg).1 (h.own.ge hg).2).1, (h.no g hg).2⟩⟩
theorem Kept.below {w w' : World} {B B2 : MB} {lo : Nat} {v : Value} {xs : List Rw} (h : Kept w B B2 lo v xs) (hb : Below w.heap.size w w') : Kept w' B B2 lo v xs := ⟨h.own.below hb, h.no⟩
theorem Kept.chg {w w' : World} {B B2 : MB} {lo : Nat} {v : Value} {xs : List Rw} (h : Kept w B B2 lo v xs) {p : Nat → Prop} (hc : ChgP p w w') (hp : ∀ g, v.ownBlock = some g → ¬ p g) : Kept w' B B2 lo v xs :=
  ⟨h.own.keep fun g hg hlt => hc.block g hlt (hp g hg), h.no⟩
/-- A block that the law holds. -/
structure Blk (w : World) (B : MB) (g : Nat) (o : Obj) : Prop where
  at_ : w.heap[g]? = some o
  no : B.lab g = .no
theorem Blk.turn {w w' : World} {B B' : MB} {g : Nat} {o : Obj} (h : Blk w B g o) (hT : Turn w w' B B') : Blk w' B' g o :=
  ⟨(hT.away h.no (lt_of_block h.at_)).2.trans h.at_, (hT.away h.no (lt_of_block h.at_)).1⟩
theorem Blk.below {w w' : World} {B : MB} {g : Nat} {o : Obj} (h : Blk w B g o) (hb : Below w.heap.size w w') : Blk w' B g o := ⟨(hb.block _ (lt_of_block h.at_)).trans h.at_, h.no⟩
theorem Blk.chg {w w' : World} {B : MB} {g : Nat} {o : Obj} (h : Blk w B g o) {p : Nat → Prop} (hc : ChgP p w w') (hp : ¬ p g) : Blk w' B g o := ⟨(hc.block _ (lt_of_block h.at_) hp).trans h.at_, h.no⟩

section
variable {W1 w : World} {mp : Nat} {B : MB} {T : Mst} {n : Nat} {mp2 : Nat} {B2 : MB} {T2 : Mst}
theorem Two.map (h : Two W1 w mp B T n mp2 B2 T2) (hn : n ≤ 100000) :
    Calls Tryz.prog 15 #[.pointer (some ⟨mp, 0, none⟩)] w fun e w' => ∃ a c, e = .returned (.slice a T.L.length c) ∧ Two W1 w' mp B T n mp2 B2 T2 ∧ Kept w' B B2 w.heap.size (.slice a T.L.length c) T.L ∧ Below w.heap.size w w' := by
  refine (h.m.map hn).mono ?_
  rintro e w' ⟨v, rfl, ho, hb⟩
  obtain ⟨a, c, rfl, _⟩ := ho.sl fun _ => rfl
  exact ⟨a, c, rfl, h.keep hb, ⟨ho, fun g hg => ⟨h.m.away (ho.ge hg).1, h.o.away (ho.ge hg).1⟩⟩, hb⟩
theorem Two.at (h : Two W1 w mp B T n mp2 B2 T2) (hn : n ≤ 100000) (x : Int) :
    Calls Tryz.prog 23 #[.pointer (some ⟨mp, 0, none⟩), .int .i64 x] w fun e w' => ∃ a c, e = .returned (.tuple #[.slice a ((T.seals x).getD []).length c, .bool (T.seals x).isSome]) ∧ Two W1 w' mp B T n mp2 B2 T2 ∧ Kept w' B B2 w.heap.size (.slice a ((T.seals x).getD []).length c) ((T.seals x).getD []) ∧ Below w.heap.size w w' := by
  refine (h.m.at hn x).mono ?_
  rintro e w' ⟨v, rfl, ho, hb⟩
  obtain ⟨a, c, rfl, _⟩ := ho.sl fun _ => rfl
  exact ⟨a, c, rfl, h.keep hb, ⟨ho, fun g hg => ⟨h.m.away (ho.ge hg).1, h.o.away (ho.ge hg).1⟩⟩, hb⟩
theorem Two.scan (h : Two W1 w mp B T n mp2 B2 T2) (hn : n ≤ 99999) (s : Int) (q : Rq) (qa : Option Addr) (qc : Nat) (r : Int) (hq : Sl 3 cellL w qa q.cells) (hl : q.cells.length ≤ 100000000) (hk : q.k = 3) (hep : q.ep ≠ 0) :
    Calls Tryz.prog 18 #[.pointer (some ⟨mp, 0, none⟩), .int .i64 s, .agg (q.at qa qc), .int .i64 r] w fun e w' => ∃ a c B', e = .returned (.tuple #[.agg ((T.ask s q r).2.2.at (.slice a (T.ask s q r).2.2.rows.length c)), .int .i64 (T.ask s q r).2.1]) ∧ Two W1 w' mp B' T n mp2 B2 T2 ∧ Kept w' B' B2 w.heap.size (.slice a (T.ask s q r).2.2.rows.length c) (T.ask s q r).2.2.rows ∧ Turn w w' B B' := by
  refine (h.m.scan hn s q qa qc r hq hl hk hep).mono ?_
  rintro e w' ⟨v, B', rfl, ho, hM, hT, hv⟩
  obtain ⟨a, c, rfl, _⟩ := ho.sl fun _ => rfl
  exact ⟨a, c, B', rfl, h.turn hM hT, ⟨ho, fun g hg => ⟨hv g hg, h.o.away (ho.ge hg).1⟩⟩, hT⟩
theorem Two.over (h : Two W1 w mp B T n mp2 B2 T2) {v : Value} {xs : List Rw} {lo : Nat} (k : Kept w B B2 lo v xs) (hlo : W1.heap.size ≤ lo) (hl : xs.length ≤ 100000000) :
    Calls Tryz.prog 30 #[v] w fun e w' => e = .returned (.tuple #[]) ∧ Two W1 w' mp B T n mp2 B2 T2 ∧ ChgP (fun g => v.ownBlock = some g) w w' := by
  refine (over_any v xs lo w k.own hl).mono ?_
  rintro e w' ⟨rfl, hc⟩
  exact ⟨rfl, ⟨h.m.chgP hc fun g hg => ⟨(k.no g hg).1, Nat.le_trans hlo (k.own.ge hg).1⟩, h.o.chgP hc fun g hg => ⟨(k.no g hg).2, Nat.le_trans hlo (k.own.ge hg).1⟩, h.dis⟩, hc⟩
end
/-- The same scan, again and again: the same answer. -/
theorem scan_all (W1 : World) (mp : Nat) (T : Mst) (n mp2 : Nat) (B2 : MB) (T2 : Mst) (hn : n ≤ 99999) (s : Int) (q : Rq) (hc : q.cells = []) (hk : q.k = 3) (hep : q.ep ≠ 0) :
    ∃ (k i er ep t l o f c n' e1 : Int) (rows : List Rw), rows.length ≤ q.lim.toNat ∧ ∀ (W' : World) (B' : MB), Two W1 W' mp B' T n mp2 B2 T2 →
      Calls Tryz.prog 18 #[.pointer (some ⟨mp, 0, none⟩), .int .i64 s, .agg (q.at none 0), .int .i64 0] W' fun e w' => ∃ a ca B'', e = .returned (.tuple #[.agg (respL k i er ep (.slice a rows.length ca) t l o f c n'), .int .i64 e1]) ∧ Two W1 w' mp B'' T n mp2 B2 T2 ∧ Kept w' B'' B2 W'.heap.size (.slice a rows.length ca) rows ∧ Turn W' w' B' B'' := by
  refine ⟨(T.ask s q 0).2.2.k, (T.ask s q 0).2.2.i, (T.ask s q 0).2.2.er, (T.ask s q 0).2.2.ep, (T.ask s q 0).2.2.t, (T.ask s q 0).2.2.l, (T.ask s q 0).2.2.o, (T.ask s q 0).2.2.f, (T.ask s q 0).2.2.c, (T.ask s q 0).2.2.n, (T.ask s q 0).2.1, (T.ask s q 0).2.2.rows, T.scan_rows s q 0 hk, fun W' B' h => ?_⟩
  exact h.scan hn s q none 0 0 (by rw [hc]; exact Sl.nil _ _ _ _) (by rw [hc]; exact Nat.zero_le _) hk hep
end Go.Proofs.YtaicecnfodhlcaaGreat
/- ModelPast: the plain law. -/
set_option linter.unusedVariables false
set_option linter.unusedSimpArgs false
namespace Go.Proofs.YtaicecnfodhlcaaGreat
open Go.RowKit Go.Deep

/-- Nothing of what sessions 63 and 64 hold has changed. -/
structure Stays (S S' : Mst) : Prop where
  cfg : S'.cfg = S.cfg
  h64 : ∀ e, S'.holds 64 e = S.holds 64 e
  h63 : ∀ e, S'.holds 63 e = S.holds 63 e
  sl : ∀ e, S.holds 64 e = true → S'.seals e = S.seals e
theorem Stays.refl (S : Mst) : Stays S S := ⟨rfl, fun _ => rfl, fun _ => rfl, fun _ _ => rfl⟩
theorem Stays.trans {S S' S'' : Mst} (h : Stays S S') (k : Stays S' S'') : Stays S S'' :=
  ⟨k.cfg.trans h.cfg, fun e => (k.h64 e).trans (h.h64 e), fun e => (k.h63 e).trans (h.h63 e), fun e he => (k.sl e (by rw [h.h64]; exact he)).trans (h.sl e he)⟩
theorem Stays.event (S : Mst) (mk : Bool) (k : ByteArray) (t v : Int) (full : Bool) : Stays S (S.event mk k t v full).1 := by
  unfold Mst.event
  split; · exact Stays.refl _
  split; · exact Stays.refl _
  split; · exact Stays.refl _
  split; · exact Stays.refl _
  split; · exact Stays.refl _
  split; · exact ⟨rfl, fun _ => rfl, fun _ => rfl, fun _ _ => rfl⟩
  split; · exact ⟨rfl, fun _ => rfl, fun _ => rfl, fun _ _ => rfl⟩
  split; · exact ⟨rfl, fun _ => rfl, fun _ => rfl, fun _ _ => rfl⟩
  exact ⟨rfl, fun _ => rfl, fun _ => rfl, fun _ _ => rfl⟩
theorem Stays.mark (S : Mst) (o s t : Int) : Stays S (S.mark o s t).1 := by
  unfold Mst.mark
  split; · exact Stays.refl _
  split; · exact Stays.refl _
  split; · exact Stays.refl _
  exact ⟨rfl, fun _ => rfl, fun _ => rfl, fun _ _ => rfl⟩
theorem Stays.kill (S : Mst) (c : Cell) : Stays S (S.kill c).1 := by
  unfold Mst.kill
  split
  · split
    · split
      · exact ⟨rfl, fun _ => rfl, fun _ => rfl, fun _ _ => rfl⟩
      · exact Stays.refl _
    · exact Stays.refl _
  · exact Stays.refl _
theorem Stays.killAll : ∀ (cs : List Cell) (S : Mst), Stays S (S.killAll cs)
  | [], S => Stays.refl S
  | c :: cs, S => (Stays.kill S c).trans (Stays.killAll cs (S.kill c).1)
theorem Stays.drop {S : Mst} (hi : S.Inv) {s : Int} (hs : s ≤ 60) (e : Int) : Stays S (S.drop s e) := by
  have hne : ∀ s', s' = 63 ∨ s' = 64 → ∀ e', (S.letGo s e).holds s' e' = S.holds s' e' := fun s' h e' => by
    show (S.holds s' e' && !(decide (s' = s) && decide (e' = e))) = S.holds s' e'
    rw [decide_eq_false (p := s' = s) (by omega)]
    simp
  unfold Mst.drop
  split
  · exact ⟨rfl, hne 64 (Or.inr rfl), hne 63 (Or.inl rfl), fun _ _ => rfl⟩
  · rename_i hn
    refine ⟨rfl, hne 64 (Or.inr rfl), hne 63 (Or.inl rfl), fun e' he => ?_⟩
    show (if e' = e then none else S.seals e') = S.seals e'
    by_cases hee : e' = e
    · exfalso
      apply hn
      subst hee
      rw [Mst.anyHolds_iff]
      · exact ⟨64, by rw [hne 64 (Or.inr rfl)]; exact he⟩
      · intro s' hs'
        have h1 : (S.holds s' e' && !(decide (s' = s) && decide (e' = e'))) = true := hs'
        have h2 := hi.old s' e' (by simp at h1; exact h1.1)
        exact ⟨h2.1, h2.2.1⟩
    · rw [if_neg hee]
theorem Stays.leave {S : Mst} (hi : S.Inv) {s : Int} (hs : s ≤ 60) : Stays S (S.leave s) := by
  have hne : ∀ s', s' = 63 ∨ s' = 64 → ∀ e', (S.holds s' e' && !decide (s' = s)) = S.holds s' e' := fun s' h e' => by
    rw [decide_eq_false (p := s' = s) (by omega)]
    simp
  refine ⟨rfl, hne 64 (Or.inr rfl), hne 63 (Or.inl rfl), fun e he => ?_⟩
  show (if S.holds s e = true ∧ S.others s e = false then none else S.seals e) = S.seals e
  rw [if_neg]
  rintro ⟨_, h2⟩
  have h3 : S.others s e = true := by
    unfold Mst.others
    rw [Mst.anyHolds_iff]
    · refine ⟨64, ?_⟩
      show (S.holds 64 e && !(decide ((64 : Int) = s) && decide (e = e))) = true
      rw [decide_eq_false (p := (64 : Int) = s) (by omega), he]
      simp
    · intro s' hs'
      have h1 : (S.holds s' e && !(decide (s' = s) && decide (e = e))) = true := hs'
      have h2 := hi.old s' e (by simp at h1; exact h1.1)
      exact ⟨h2.1, h2.2.1⟩
  rw [h3] at h2
  cases h2
theorem Stays.hold (S : Mst) {s : Int} (hs : s ≤ 60) (e : Int) : Stays S (S.hold s e) := by
  have hne : ∀ s', s' = 63 ∨ s' = 64 → ∀ e', (S.holds s' e' || (decide (s' = s) && decide (e' = e))) = S.holds s' e' := fun s' h e' => by
    rw [decide_eq_false (p := s' = s) (by omega)]
    simp
  exact ⟨rfl, hne 64 (Or.inr rfl), hne 63 (Or.inl rfl), fun _ _ => rfl⟩
theorem Stays.ask {S : Mst} (hi : S.Inv) {s : Int} (hs : s ≤ 60) (q : Rq) (r : Int) : Stays S (S.ask s q r).1 := by
  unfold Mst.ask
  split; · exact Stays.refl _
  split; · exact Stays.refl _
  split; · exact Stays.refl _
  split; · exact Stays.refl _
  rw [answered_fst]
  unfold Mst.inner
  split
  · unfold Mst.pin
    split
    · exact Stays.refl _
    · split
      · exact Stays.refl _
      · have h1 : Stays S (S.sealed.kept S.now S.L) := ⟨rfl, fun _ => rfl, fun _ => rfl, fun e he => by
          show (if e = S.now then some S.L else S.seals e) = S.seals e
          have := hi.old 64 e he
          rw [if_neg (by omega)]⟩
        exact h1.trans (Stays.hold _ hs _)
  split
  · unfold Mst.join
    split
    · split
      · exact Stays.refl _
      · split
        · exact Stays.refl _
        · exact Stays.hold _ hs _
    · exact Stays.refl _
  split
  · unfold Mst.release
    split
    · exact Stays.drop hi hs _
    · exact Stays.refl _
  split
  · exact Stays.refl _
  unfold Mst.read
  split
  · exact Stays.refl _
  · split
    · split
      · split
        · exact Stays.refl _
        · exact ⟨rfl, fun _ => rfl, fun _ => rfl, fun _ _ => rfl⟩
      · exact Stays.refl _
    · exact Stays.refl _
theorem Stays.act {S : Mst} (hi : S.Inv) (x : Opx) (hs : x.se ≤ 60) : Stays S (S.act x) := by
  unfold Mst.act
  split; · exact Stays.event _ _ _ _ _ _
  split; · exact Stays.mark _ _ _ _
  split; · exact Stays.kill _ _
  split; · exact Stays.ask hi hs _ _
  split; · exact Stays.leave hi hs
  split; · exact Stays.killAll _ _
  exact Stays.refl _
end Go.Proofs.YtaicecnfodhlcaaGreat
/- ModelPast: what is pinned, what is answered. -/
set_option linter.unusedVariables false
set_option linter.unusedSimpArgs false
namespace Go.Proofs.YtaicecnfodhlcaaGreat
open Go.RowKit Go.Deep

/-- Session 64 holds es; each tells its map; session 63 holds none. -/
structure PastI (T : Mst) (es : List Int) (Ms : List (List Rw)) : Prop where
  len : es.length = Ms.length
  pi : T.cfg.pi = 64
  sl : ∀ k (h : k < es.length) (h2 : k < Ms.length), T.seals es[k] = some Ms[k]
  hold : ∀ e, T.holds 64 e = true ↔ e ∈ es
  no : ∀ e, T.holds 63 e = false
  nd : es.Nodup
theorem PastI.stays {T T' : Mst} {es : List Int} {Ms : List (List Rw)} (h : PastI T es Ms) (k : Stays T T') : PastI T' es Ms :=
  ⟨h.len, by rw [k.cfg]; exact h.pi, fun i hi h2 => (k.sl _ ((h.hold _).2 (List.getElem_mem hi))).trans (h.sl i hi h2), fun e => by rw [k.h64]; exact h.hold e, fun e => by rw [k.h63]; exact h.no e, h.nd⟩
theorem PastI.new (c : Cfg) (hp : c.pi = 64) : PastI (Mst.new c) [] [] :=
  ⟨rfl, hp, fun k h => absurd h (Nat.not_lt_zero _), fun e => ⟨fun h => (nomatch h), fun h => (nomatch h)⟩, fun e => rfl, List.nodup_nil⟩
theorem PastI.old {T : Mst} {es : List Int} {Ms : List (List Rw)} (h : PastI T es Ms) (hi : T.Inv) : ∀ e ∈ es, 1 ≤ e ∧ e < T.now := fun e he => by
  have := hi.old 64 e ((h.hold e).2 he)
  exact ⟨this.2.2.1, this.2.2.2⟩
theorem PastI.pin {T : Mst} {es : List Int} {Ms : List (List Rw)} (h : PastI T es Ms) (hi : T.Inv) : PastI (T.pinned 64) (es ++ [T.now]) (Ms ++ [T.L]) := by
  have hold := h.old hi
  refine ⟨by simp [h.len], h.pi, fun k hk h2 => ?_, fun e => ?_, fun e => ?_, ?_⟩
  · show (if (es ++ [T.now])[k] = T.now then some T.L else T.seals (es ++ [T.now])[k]) = some (Ms ++ [T.L])[k]
    by_cases hlt : k < es.length
    · have hlm : k < Ms.length := by rw [← h.len]; exact hlt
      rw [List.getElem_append_left hlt, List.getElem_append_left hlm]
      have := hold _ (List.getElem_mem hlt)
      rw [if_neg (by omega)]
      exact h.sl k hlt hlm
    · have hke : k = es.length := by simp at hk; omega
      have hkm : k = Ms.length := by rw [← h.len]; exact hke
      have e1 : (es ++ [T.now])[k] = T.now := by rw [List.getElem_append_right (by omega)]; simp [hke]
      have e2 : (Ms ++ [T.L])[k] = T.L := by rw [List.getElem_append_right (by omega)]; simp [hkm]
      rw [e1, e2, if_pos rfl]
  · show (T.holds 64 e || (decide ((64 : Int) = 64) && decide (e = T.now))) = true ↔ _
    rw [List.mem_append, List.mem_singleton, ← h.hold e]
    simp
  · show (T.holds 63 e || (decide ((63 : Int) = 64) && decide (e = T.now))) = false
    rw [h.no e]
    rfl
  · rw [List.nodup_append]
    refine ⟨h.nd, by simp, fun a ha b hb hab => ?_⟩
    rw [List.mem_singleton.1 hb] at hab
    have := hold a ha
    omega
theorem PastI.held {T : Mst} {es : List Int} {Ms : List (List Rw)} (h : PastI T es Ms) (hi : T.Inv) : T.heldN 64 = es.length := by
  have hold := h.old hi
  have hp : es.Perm (((List.range T.now.toNat).filter fun (i : Nat) => T.holds 64 (i : Int)).map fun (i : Nat) => (i : Int)) := by
    rw [List.perm_ext_iff_of_nodup h.nd]
    · intro e
      rw [← h.hold e]
      constructor
      · intro he
        have := hold e ((h.hold e).1 he)
        exact List.mem_map.2 ⟨e.toNat, List.mem_filter.2 ⟨List.mem_range.2 (by omega), by rw [show ((e.toNat : Nat) : Int) = e by omega]; exact he⟩, by omega⟩
      · intro he
        obtain ⟨i, hi', rfl⟩ := List.mem_map.1 he
        exact (List.mem_filter.1 hi').2
    · unfold List.Nodup
      rw [List.pairwise_map]
      exact ((List.nodup_range (n := T.now.toNat)).sublist List.filter_sublist).imp fun hne e => hne (by omega)
  have hl := hp.length_eq
  rw [List.length_map] at hl
  unfold Mst.heldN
  exact hl.symm
/-- The empty string, as the walk writes it. -/
abbrev b0 : ByteArray := ⟨#[]⟩
abbrev z0 : Cell := ⟨0, b0, 0⟩
theorem chk_pin {i : Int} (h0 : 0 ≤ i) (h1 : i ≤ 1000) : chkRq ⟨4, i, 0, [], z0, z0, 0⟩ = 0 := by
  have e1 : isSmall i = true := by unfold isSmall; rw [decide_eq_true h0, decide_eq_true (by omega)]; rfl
  have e2 : sameRq ⟨4, i, 0, [], z0, z0, 0⟩ (Rq.own ⟨4, i, 0, [], z0, z0, 0⟩) = true := by
    have : Rq.own ⟨4, i, 0, [], z0, z0, 0⟩ = ⟨4, i, 0, [], z0, z0, 0⟩ := rfl
    rw [this]
    unfold sameRq
    simp
  unfold chkRq
  dsimp only
  rw [if_neg (by omega), if_neg (by rw [e1, e2]; decide), if_neg (by omega), if_neg (by omega), if_neg (by omega)]
theorem chk_scan {e : Int} (h0 : 0 ≤ e) (h1 : e ≤ 1099511627776) : chkRq ⟨3, 0, e, [], z0, ⟨4, b0, 0⟩, 256⟩ = 0 := by
  have e1 : isSmall e = true := by unfold isSmall; rw [decide_eq_true h0, decide_eq_true h1]; rfl
  have e2 : sameRq ⟨3, 0, e, [], z0, ⟨4, b0, 0⟩, 256⟩ (Rq.own ⟨3, 0, e, [], z0, ⟨4, b0, 0⟩, 256⟩) = true := by
    have : Rq.own ⟨3, 0, e, [], z0, ⟨4, b0, 0⟩, 256⟩ = ⟨3, 0, e, [], z0, ⟨4, b0, 0⟩, 256⟩ := rfl
    rw [this]
    unfold sameRq
    simp
  unfold chkRq
  dsimp only
  rw [if_neg (by omega), if_neg (by rw [e1, e2]; decide), if_neg (by omega), if_pos rfl, if_neg (by decide), if_neg (by decide), if_neg (by omega)]
theorem chk_rel {e : Int} (h0 : 1 ≤ e) (h1 : e ≤ 1099511627776) : chkRq ⟨6, 0, e, [], z0, z0, 0⟩ = 0 := by
  have e1 : isSmall e = true := by unfold isSmall; rw [decide_eq_true (by omega), decide_eq_true h1]; rfl
  have e2 : sameRq ⟨6, 0, e, [], z0, z0, 0⟩ (Rq.own ⟨6, 0, e, [], z0, z0, 0⟩) = true := by
    have : Rq.own ⟨6, 0, e, [], z0, z0, 0⟩ = ⟨6, 0, e, [], z0, z0, 0⟩ := rfl
    rw [this]
    unfold sameRq
    simp
  unfold chkRq
  dsimp only
  rw [if_neg (by omega), if_neg (by rw [e1, e2]; decide), if_neg (by omega), if_neg (by omega), if_pos (by omega), if_neg (by omega)]
/-- The pin. -/
theorem PastI.ask_pin {T : Mst} {es : List Int} {Ms : List (List Rw)} (h : PastI T es Ms) (hi : T.Inv) (hl : es.length < 64) (hn : T.now ≠ 1099511627776) {i : Int} (h0 : 0 ≤ i) (h1 : i ≤ 1000) :
    T.ask 64 ⟨4, i, 0, [], z0, z0, 0⟩ 0 = (T.pinned 64, 0, ⟨2, i, 0, T.now, [], 0, 0, 0, 0, 0, 0⟩) := by
  unfold Mst.ask
  rw [if_neg (by omega), chk_pin h0 h1, if_neg (by simp), if_neg (by simp), if_neg (by simp)]
  unfold Mst.inner
  dsimp only
  rw [if_pos rfl]
  unfold Mst.pin
  rw [h.held hi, h.pi, if_neg (by omega), if_neg hn]
  exact answered_ok
theorem scan_whole {T : Mst} {M : List Rw} (hv : T.cfg.Ok) (hM : ∀ r ∈ M, cellOk T.cfg.vs r.cell) : (M.filter fun r => scanP z0 ⟨4, b0, 0⟩ r.cell) = M := by
  rw [List.filter_eq_self]
  intro r hr
  obtain ⟨i, hi, e1, e2, e3, e4, e5⟩ := hM r hr
  have h4 := hv.vhi
  unfold scanP
  rw [Bool.and_eq_true, decide_eq_true_eq, decide_eq_true_eq]
  constructor
  · unfold ccmp
    by_cases hz : (0 : Int) < r.cell.v
    · have : icmp (z0.v) r.cell.v = -1 := by unfold icmp; rw [if_pos hz]
      rw [this, if_neg (by decide)]; decide
    · have hv0 : r.cell.v = 0 := by omega
      have : icmp (z0.v) r.cell.v = 0 := by unfold icmp; rw [if_neg hz, if_neg (by show ¬ r.cell.v < 0; omega)]
      rw [this, if_pos rfl]
      have hb : bcmp b0 r.cell.k = -1 := by
        unfold bcmp
        cases hk : r.cell.k.data.toList with
        | nil =>
          exfalso
          have : r.cell.k.size = 0 := by
            show r.cell.k.data.size = 0
            rw [← Array.length_toList, hk]; rfl
          omega
        | cons a t => rfl
      show (if bcmp b0 r.cell.k = 0 then _ else bcmp b0 r.cell.k) ≤ 0
      rw [hb, if_neg (by decide)]; decide
  · unfold ccmp
    have : icmp r.cell.v (4 : Int) = -1 := by unfold icmp; rw [if_pos (by omega)]
    show (if icmp r.cell.v 4 = 0 then _ else icmp r.cell.v 4) < 0
    rw [this, if_neg (by decide)]; decide
/-- The scan of an epoch that is held: its map. -/
theorem PastI.ask_scan {T : Mst} {es : List Int} {Ms : List (List Rw)} (h : PastI T es Ms) (hi : T.Inv) {k : Nat} (hk : k < es.length) (hk2 : k < Ms.length) :
    T.ask 64 ⟨3, 0, es[k], [], z0, ⟨4, b0, 0⟩, 256⟩ 0 = (T, 0, ⟨1, 0, 0, 0, Ms[k].take 256, 0, 0, 0, 0, 0, 0⟩) := by
  have ho := h.old hi _ (List.getElem_mem hk)
  have hh := (h.hold _).2 (List.getElem_mem hk)
  have hs := h.sl k hk hk2
  have hw := scan_whole (T := T) hi.cfg fun r hr => ((hi.sok _ _ hs).2 r hr).1
  unfold Mst.ask
  rw [if_neg (by omega), chk_scan (by omega) (by have := hi.now.2; omega), if_neg (by simp), if_neg (by simp), if_neg (by simp)]
  unfold Mst.inner
  dsimp only
  rw [if_neg (by omega), if_neg (by omega), if_neg (by omega), if_neg (by omega)]
  have hr : T.read 64 ⟨3, 0, es[k], [], z0, ⟨4, b0, 0⟩, 256⟩ = (T, 0, ⟨1, 0, 0, 0, Ms[k].take 256, 0, 0, 0, 0, 0, 0⟩) := by
    have hrl : T.readL 64 es[k] = some Ms[k] := by
      unfold Mst.readL
      rw [if_neg (by omega), if_pos hh, hs]
    unfold Mst.read
    dsimp only
    rw [hrl]
    dsimp only
    rw [if_pos rfl, if_neg (by omega)]
    unfold scanRows
    rw [hw]
    rfl
  rw [hr]
  exact answered_ok
/-- Another session does not hold it. -/
theorem PastI.ask_63 {T : Mst} {es : List Int} {Ms : List (List Rw)} (h : PastI T es Ms) (hi : T.Inv) {k : Nat} (hk : k < es.length) :
    T.ask 63 ⟨3, 0, es[k], [], z0, ⟨4, b0, 0⟩, 256⟩ 0 = (T, 0, Rsp.bad 0 33) := by
  have ho := h.old hi _ (List.getElem_mem hk)
  unfold Mst.ask
  rw [if_neg (by omega), chk_scan (by omega) (by have := hi.now.2; omega), if_neg (by simp), if_neg (by simp), if_neg (by simp)]
  unfold Mst.inner
  dsimp only
  rw [if_neg (by omega), if_neg (by omega), if_neg (by omega), if_neg (by omega)]
  have hr : T.read 63 ⟨3, 0, es[k], [], z0, ⟨4, b0, 0⟩, 256⟩ = (T, 33, Rsp.no) := by
    have hrl : T.readL 63 es[k] = none := by
      unfold Mst.readL
      rw [if_neg (by omega), if_neg (by rw [h.no]; decide)]
    unfold Mst.read
    dsimp only
    rw [hrl]
  rw [hr]
  exact answered_bad (by decide)
/-- Behind Leave nothing is held. -/
theorem ask_gone {T : Mst} {e : Int} (h0 : 1 ≤ e) (h1 : e ≤ 1099511627776) (hh : T.holds 64 e = false) : T.ask 64 ⟨6, 0, e, [], z0, z0, 0⟩ 0 = (T, 0, Rsp.bad 0 33) := by
  unfold Mst.ask
  rw [if_neg (by omega), chk_rel h0 h1, if_neg (by simp), if_neg (by simp), if_neg (by simp)]
  unfold Mst.inner
  dsimp only
  rw [if_neg (by omega), if_neg (by omega), if_pos rfl]
  unfold Mst.release
  rw [if_neg (by rw [hh]; decide)]
  exact answered_bad (by decide)
theorem leave_none (T : Mst) (e : Int) : (T.leave 64).holds 64 e = false := by
  show (T.holds 64 e && !decide ((64 : Int) = 64)) = false
  simp
theorem held_none {T : Mst} (h : ∀ e, T.holds 64 e = false) : T.heldN 64 = 0 := by
  unfold Mst.heldN
  rw [List.length_eq_zero_iff, List.filter_eq_nil_iff]
  intro i _
  rw [h]
  decide
end Go.Proofs.YtaicecnfodhlcaaGreat
/- ModelPast: the epochs and the maps that the law holds. -/
set_option linter.unusedVariables false
set_option linter.unusedSimpArgs false
namespace Go.Proofs.YtaicecnfodhlcaaGreat
open Go.RowKit Go.Deep

theorem wrapI (n : Int) (h : 1 ≤ n ∧ n ≤ 1099511627776) : IntKind.i64.wrap n = n := by
  have e1 : IntKind.i64.signed = true := rfl
  have e2 : (2 : Int) ^ IntKind.i64.bits = 18446744073709551616 := by decide
  have e3 : (2 : Int) ^ (IntKind.i64.bits - 1) = 9223372036854775808 := by decide
  simp only [IntKind.wrap]
  rw [if_neg]
  · rw [e2]; omega
  · intro h2
    rw [Bool.and_eq_true, decide_eq_true_eq] at h2
    obtain ⟨_, h2⟩ := h2
    rw [e2, e3] at h2
    omega
abbrev intE (x : Int) : List Value := [.int .i64 x]
theorem st_ints : SlT Tryz.prog 59 3 1 8 := SlT.mk' (z := .int .i64 0) Tryz.underlying59 (by decide) (by kernel_rfl) rfl
theorem st_rowss : SlT Tryz.prog 60 43 1 24 := SlT.mk' (z := .slice none 0 0) Tryz.underlying60 (by decide) (by kernel_rfl) rfl
theorem cells1_int : Cells1 intE := fun x u hu => by simp at hu; subst hu; rfl
theorem cells1_slc : Cells1 sliceL := fun x u hu => by simp at hu; subst hu; rfl
theorem Own.typ {α : Type} {E sz B : Nat} {enc : α → List Value} {w : World} {v : Value} {xs : List α} (h : Own E sz enc B w v xs) {g : Nat} (hg : v.ownBlock = some g) : ∃ cs, w.heap[g]? = some (.cells cs E (0, 0)) := by
  rcases h.2 with ⟨he, _⟩ | ⟨g2, c, cur, he, hB, hb, _⟩
  · rw [he] at hg; cases hg
  · rw [he] at hg
    have : g2 = g := by simpa [Value.ownBlock] using hg
    subst this
    exact ⟨cur, hb⟩
theorem Own.apart {α β : Type} {E E' sz sz' B B' : Nat} {enc : α → List Value} {enc' : β → List Value} {w : World} {v v' : Value} {xs : List α} {ys : List β} (h : Own E sz enc B w v xs) (h' : Own E' sz' enc' B' w v' ys) (hE : E ≠ E') {g : Nat} (hg : v.ownBlock = some g) : v'.ownBlock ≠ some g := fun hg' => by
  obtain ⟨cs, e1⟩ := h.typ hg
  obtain ⟨cs', e2⟩ := h'.typ hg'
  rw [e1] at e2
  injection e2 with e2
  injection e2 with _ e3 _
  exact hE e3
/-- What an append may do. -/
def Grew (w w' : World) (v v' : Value) : Prop := (v'.ownBlock = v.ownBlock ∧ v.ownBlock ≠ none ∧ w.grownBy w' v.ownBlock) ∨ (v'.ownBlock = some w.heap.size ∧ w.grownBy w' none)
theorem Grew.block {w w' : World} {v v' : Value} (h : Grew w w' v v') {g : Nat} (hg : g < w.heap.size) (hn : v.ownBlock ≠ some g) : w'.heap[g]? = w.heap[g]? := by
  rcases h with ⟨_, _, h3⟩ | ⟨_, h3⟩
  · exact h3.block g hg (fun e => hn e.symm)
  · exact h3.block g hg (fun e => nomatch e)
theorem Grew.chg {w w' : World} {v v' : Value} (h : Grew w w' v v') : ChgP (fun g => v.ownBlock = some g) w w' := by
  rcases h with ⟨_, _, h3⟩ | ⟨_, h3⟩
  · exact ⟨h3.os, h3.tape, h3.output, h3.size, fun g hg hn => h3.block g hg (fun e => hn e.symm)⟩
  · exact ⟨h3.os, h3.tape, h3.output, h3.size, fun g hg hn => h3.block g hg (fun e => nomatch e)⟩
structure PastW (W1 w : World) (B : MB) (es : List Int) (Ms : List (List Rw)) (ve vm : Value) (V : List Slc) : Prop where
  oe : Own 3 1 intE W1.heap.size w ve es
  ne : ∀ g, ve.ownBlock = some g → B.lab g = .no
  om : Own 43 1 sliceL W1.heap.size w vm V
  nm : ∀ g, vm.ownBlock = some g → B.lab g = .no
  lv : V.length = Ms.length
  ln : ∀ i (h : i < V.length) (h2 : i < Ms.length), V[i].n = Ms[i].length
  ro : ∀ i (h : i < V.length) (h2 : i < Ms.length), Own 93 7 rowL W1.heap.size w V[i].v Ms[i]
  nr : ∀ i (h : i < V.length) g, V[i].v.ownBlock = some g → B.lab g = .no
section
variable {W1 w w' : World} {B B' : MB} {es : List Int} {Ms : List (List Rw)} {ve vm : Value} {V : List Slc}
theorem PastW.new (W1 w : World) (B : MB) : PastW W1 w B [] [] (.slice none 0 0) (.slice none 0 0) [] :=
  ⟨Own.nil _ _ _ _ _, (fun g hg => nomatch hg), Own.nil _ _ _ _ _, (fun g hg => nomatch hg), rfl, fun i h => absurd h (Nat.not_lt_zero _), fun i h => absurd h (Nat.not_lt_zero _), fun i h => absurd h (Nat.not_lt_zero _)⟩
theorem PastW.turn (h : PastW W1 w B es Ms ve vm V) (hT : Turn w w' B B') : PastW W1 w' B' es Ms ve vm V :=
  ⟨h.oe.keep fun g hg hlt => (hT.away (h.ne g hg) hlt).2, fun g hg => (hT.away (h.ne g hg) (h.oe.ge hg).2).1, h.om.keep fun g hg hlt => (hT.away (h.nm g hg) hlt).2, fun g hg => (hT.away (h.nm g hg) (h.om.ge hg).2).1, h.lv, h.ln,
    fun i hi h2 => (h.ro i hi h2).keep fun g hg hlt => (hT.away (h.nr i hi g hg) hlt).2, fun i hi g hg => (hT.away (h.nr i hi g hg) ((h.ro i hi (by rw [← h.lv]; exact hi)).ge hg).2).1⟩
theorem PastW.below (h : PastW W1 w B es Ms ve vm V) (hb : Below w.heap.size w w') : PastW W1 w' B es Ms ve vm V :=
  ⟨h.oe.below hb, h.ne, h.om.below hb, h.nm, h.lv, h.ln, fun i hi h2 => (h.ro i hi h2).below hb, h.nr⟩
/-- An epoch more. -/
theorem PastW.pushE (h : PastW W1 w B es Ms ve vm V) {e : Int} {ve' : Value} (ho : Own 3 1 intE W1.heap.size w' ve' (es ++ [e])) (hg : Grew w w' ve ve') (hn : B.lab w.heap.size = .no) : PastW W1 w' B (es ++ [e]) Ms ve' vm V := by
  refine ⟨ho, fun g hg' => ?_, ?_, h.nm, h.lv, h.ln, fun i hi h2 => ?_, h.nr⟩
  · rcases hg with ⟨h1, _, _⟩ | ⟨h1, _⟩
    · exact h.ne g (by rw [← h1]; exact hg')
    · rw [h1] at hg'; cases hg'; exact hn
  · exact h.om.keep fun g hg' hlt => hg.block hlt (h.om.apart h.oe (by decide) hg')
  · exact (h.ro i hi h2).keep fun g hg' hlt => hg.block hlt ((h.ro i hi h2).apart h.oe (by decide) hg')
theorem PastW.rowsE (h : PastW W1 w B es Ms ve vm V) {v : Value} {xs : List Rw} {ve' : Value} (ho : Own 93 7 rowL W1.heap.size w v xs) (hg : Grew w w' ve ve') : Own 93 7 rowL W1.heap.size w' v xs :=
  ho.keep fun g hg' hlt => hg.block hlt (ho.apart h.oe (by decide) hg')
/-- A map more. -/
theorem PastW.pushM (h : PastW W1 w B es Ms ve vm V) {M : List Rw} {s : Slc} {vm' : Value} (ho : Own 43 1 sliceL W1.heap.size w' vm' (V ++ [s])) (hg : Grew w w' vm vm') (hn : B.lab w.heap.size = .no) (hs : s.n = M.length) (hr : Own 93 7 rowL W1.heap.size w s.v M) (hrn : ∀ g, s.v.ownBlock = some g → B.lab g = .no) :
    PastW W1 w' B es (Ms ++ [M]) ve vm' (V ++ [s]) := by
  have hkr : ∀ {v : Value} {xs : List Rw}, Own 93 7 rowL W1.heap.size w v xs → Own 93 7 rowL W1.heap.size w' v xs := fun hx => hx.keep fun g hg' hlt => hg.block hlt (hx.apart h.om (by decide) hg')
  have hlv := h.lv
  refine ⟨h.oe.keep fun g hg' hlt => hg.block hlt (h.oe.apart h.om (by decide) hg'), h.ne, ho, fun g hg' => ?_, by simp [hlv], fun i hi h2 => ?_, fun i hi h2 => ?_, fun i hi g hg' => ?_⟩
  · rcases hg with ⟨h1, _, _⟩ | ⟨h1, _⟩
    · exact h.nm g (by rw [← h1]; exact hg')
    · rw [h1] at hg'; cases hg'; exact hn
  · by_cases hlt : i < V.length
    · have hlm : i < Ms.length := by omega
      rw [List.getElem_append_left hlt, List.getElem_append_left hlm]
      exact h.ln i hlt hlm
    · have hie : i = V.length := by simp at hi; omega
      have e1 : (V ++ [s])[i] = s := by rw [List.getElem_append_right (by omega)]; simp [hie]
      have e2 : (Ms ++ [M])[i] = M := by rw [List.getElem_append_right (by omega)]; simp [hie, hlv]
      rw [e1, e2]
      exact hs
  · by_cases hlt : i < V.length
    · have hlm : i < Ms.length := by omega
      rw [List.getElem_append_left hlt, List.getElem_append_left hlm]
      exact hkr (h.ro i hlt hlm)
    · have hie : i = V.length := by simp at hi; omega
      have e1 : (V ++ [s])[i] = s := by rw [List.getElem_append_right (by omega)]; simp [hie]
      have e2 : (Ms ++ [M])[i] = M := by rw [List.getElem_append_right (by omega)]; simp [hie, hlv]
      rw [e1, e2]
      exact hkr hr
  · by_cases hlt : i < V.length
    · rw [List.getElem_append_left hlt] at hg'
      exact h.nr i hlt g hg'
    · have hie : i = V.length := by simp at hi; omega
      have e1 : (V ++ [s])[i] = s := by rw [List.getElem_append_right (by omega)]; simp [hie]
      rw [e1] at hg'
      exact hrn g hg'
end
end Go.Proofs.YtaicecnfodhlcaaGreat
/- A struct stored whole into its new block. -/
set_option linter.unusedVariables false
set_option linter.unusedSimpArgs false
namespace Go.Proofs.YtaicecnfodhlcaaGreat
open Go.RowKit Go.Deep

theorem take_set_succ (cs : List Value) (o : Nat) (v : Value) (h : o < cs.length) : (cs.set o v).take (o + 1) = cs.take o ++ [v] := by
  rw [List.take_add_one, List.getElem?_eq_getElem (by simpa using h)]
  have e : (cs.set o v).take o = cs.take o := by
    apply List.ext_getElem?
    intro i
    rw [List.getElem?_take, List.getElem?_take]
    split
    · rw [List.getElem?_set_ne (by omega)]
    · rfl
  rw [e]
  simp
theorem setCells_blk {g : Nat} {t : TypeId} {fr : Nat × Nat} : ∀ (vs : List Value) (o : Nat) (w : World) (cs : List Value), w.heap[g]? = some (.cells cs.toArray t fr) → o + vs.length ≤ cs.length →
    (w.setCells g o vs).heap[g]? = some (.cells (cs.take o ++ vs ++ cs.drop (o + vs.length)).toArray t fr)
  | [], o, w, cs, h, _ => by
    rw [World.setCells]
    simpa using h
  | v :: r, o, w, cs, h, hl => by
    rw [World.setCells]
    have hlt : o < cs.length := by simp at hl; omega
    have h1 := set_obj h o v
    rw [show cs.toArray.setIfInBounds o v = (cs.set o v).toArray by simp] at h1
    have h2 := setCells_blk r (o + 1) _ (cs.set o v) h1 (by simp at hl ⊢; omega)
    rw [take_set_succ cs o v hlt, List.drop_set_of_lt (by omega)] at h2
    rw [h2]
    simp [Nat.add_assoc, Nat.add_comm 1]
theorem there_new (w : World) (cs : Array Value) (t : TypeId) : World.there (w.alloc (.cells cs t)) w.heap.size 0 cs.size := fun j hj => by
  have h : (w.alloc (.cells cs t)).heap[w.heap.size]? = some (.cells cs t (0, 0)) := blk_at rfl
  rw [Nat.zero_add]
  refine ⟨?_, frozen_blk h _⟩
  rw [cell_blk h, Array.getElem?_eq_getElem hj]
  rfl
theorem new_set (w : World) (cs : Array Value) (t : TypeId) (vs : List Value) (hl : vs.length = cs.size) :
    Below w.heap.size w ((w.alloc (.cells cs t)).setCells w.heap.size 0 vs) ∧ ((w.alloc (.cells cs t)).setCells w.heap.size 0 vs).heap[w.heap.size]? = some (.cells vs.toArray t (0, 0)) := by
  have h : (w.alloc (.cells cs t)).heap[w.heap.size]? = some (.cells cs.toList.toArray t (0, 0)) := blk_at (o := .cells cs.toList.toArray t (0, 0)) rfl
  refine ⟨Below.chain ((Below.refl _ _).alloc (Nat.le_refl _) _) (chg_setCells _ _ _ _) (by simp) (fun x hx => by rw [List.mem_singleton.1 hx]; exact Nat.le_refl _), ?_⟩
  have h2 := setCells_blk vs 0 _ cs.toList h (by simp [hl])
  rw [h2]
  simp [hl]
end Go.Proofs.YtaicecnfodhlcaaGreat
/- ModelPast: what the two sessions are answered; what a round holds. -/
set_option linter.unusedVariables false
set_option linter.unusedSimpArgs false
namespace Go.Proofs.YtaicecnfodhlcaaGreat
open Go.RowKit Go.Deep

abbrev scanA (e : Int) : Array Value := #[.int .i64 3, .int .i64 0, .int .i64 e, .slice none 0 0, .int .i64 0, .string ⟨#[]⟩, .int .i64 0, .int .i64 4, .string ⟨#[]⟩, .int .i64 0, .int .i64 256]
abbrev relA (e : Int) : Array Value := #[.int .i64 6, .int .i64 0, .int .i64 e, .slice none 0 0, .int .i64 0, .string ⟨#[]⟩, .int .i64 0, .int .i64 0, .string ⟨#[]⟩, .int .i64 0, .int .i64 0]
section
variable {W1 w : World} {mp : Nat} {B : MB} {T : Mst} {n : Nat} {es : List Int} {Ms : List (List Rw)}
theorem past_at (h : Mine W1 w mp B T n) (hI : PastI T es Ms) (hn : n ≤ 99999) {k : Nat} (hk : k < es.length) (hk2 : k < Ms.length) :
    Calls Tryz.prog 23 #[.pointer (some ⟨mp, 0, none⟩), .int .i64 es[k]] w fun e w' => ∃ a c, e = .returned (.tuple #[.slice a Ms[k].length c, .bool true]) ∧ Own 93 7 rowL w.heap.size w' (.slice a Ms[k].length c) Ms[k] ∧ Below w.heap.size w w' := by
  have hc := h.at (by omega) es[k]
  rw [hI.sl k hk hk2] at hc
  refine hc.mono ?_
  rintro e w' ⟨v, rfl, ho, hb⟩
  obtain ⟨a, c, rfl, _⟩ := ho.sl fun _ => rfl
  exact ⟨a, c, rfl, ho, hb⟩
theorem past_scan (h : Mine W1 w mp B T n) (hI : PastI T es Ms) (hn : n ≤ 99999) {k : Nat} (hk : k < es.length) (hk2 : k < Ms.length) :
    Calls Tryz.prog 18 #[.pointer (some ⟨mp, 0, none⟩), .int .i64 64, .agg (scanA es[k]), .int .i64 0] w fun e w' => ∃ a c B', e = .returned (.tuple #[.agg (respL 1 0 0 0 (.slice a (Ms[k].take 256).length c) 0 0 0 0 0 0), .int .i64 0]) ∧ Own 93 7 rowL w.heap.size w' (.slice a (Ms[k].take 256).length c) (Ms[k].take 256) ∧ Mine W1 w' mp B' T n ∧ Turn w w' B B' ∧ ∀ g, (Value.slice a (Ms[k].take 256).length c).ownBlock = some g → B'.lab g = .no := by
  have ho := hI.old h.md.inv _ (List.getElem_mem hk)
  have hc := h.scan hn 64 ⟨3, 0, es[k], [], z0, ⟨4, b0, 0⟩, 256⟩ none 0 0 (Sl.nil _ _ _ _) (Nat.zero_le _) rfl (by show es[k] ≠ 0; omega)
  rw [hI.ask_scan h.md.inv hk hk2] at hc
  refine Calls.mono hc ?_
  rintro e w' ⟨v, B', rfl, ho, hM, hT, hv⟩
  obtain ⟨a, c, rfl, _⟩ := ho.sl fun _ => rfl
  exact ⟨a, c, B', rfl, ho, hM, hT, hv⟩
theorem past_63 (h : Mine W1 w mp B T n) (hI : PastI T es Ms) (hn : n ≤ 99999) {k : Nat} (hk : k < es.length) :
    Calls Tryz.prog 18 #[.pointer (some ⟨mp, 0, none⟩), .int .i64 63, .agg (scanA es[k]), .int .i64 0] w fun e w' => ∃ a c B', e = .returned (.tuple #[.agg (respL 5 0 33 0 (.slice a 0 c) 0 0 0 0 0 0), .int .i64 0]) ∧ Mine W1 w' mp B' T n ∧ Turn w w' B B' := by
  have ho := hI.old h.md.inv _ (List.getElem_mem hk)
  have hc := h.scan hn 63 ⟨3, 0, es[k], [], z0, ⟨4, b0, 0⟩, 256⟩ none 0 0 (Sl.nil _ _ _ _) (Nat.zero_le _) rfl (by show es[k] ≠ 0; omega)
  rw [hI.ask_63 h.md.inv hk] at hc
  refine Calls.mono hc ?_
  rintro e w' ⟨v, B', rfl, ho, hM, hT, hv⟩
  obtain ⟨a, c, rfl, _⟩ := ho.sl fun _ => rfl
  exact ⟨a, c, B', rfl, hM, hT⟩
theorem past_gone (h : Mine W1 w mp B T n) (hn : n ≤ 99999) {x : Int} (h0 : 1 ≤ x) (h1 : x ≤ 1099511627776) (hh : T.holds 64 x = false) :
    Calls Tryz.prog 18 #[.pointer (some ⟨mp, 0, none⟩), .int .i64 64, .agg (relA x), .int .i64 0] w fun e w' => ∃ a c B', e = .returned (.tuple #[.agg (respL 5 0 33 0 (.slice a 0 c) 0 0 0 0 0 0), .int .i64 0]) ∧ Mine W1 w' mp B' T (n + 1) ∧ Turn w w' B B' := by
  have hc := h.ask hn 64 ⟨6, 0, x, [], z0, z0, 0⟩ none 0 0 (Sl.nil _ _ _ _) (Nat.zero_le _)
  rw [ask_gone h0 h1 hh] at hc
  refine Calls.mono hc ?_
  rintro e w' ⟨v, B', rfl, ho, hM, hT, hv⟩
  obtain ⟨a, c, rfl, _⟩ := ho.sl fun _ => rfl
  exact ⟨a, c, B', rfl, hM, hT⟩
end
/-- The two responses and the map's slice stay. -/
structure PastR (W0 : World) (gr gs mb mo : Nat) (R S : Obj) (v : Value) (W : World) : Prop where
  b : Below W0.heap.size W0 W
  r : W.heap[gr]? = some R
  s : W.heap[gs]? = some S
  v : W.cell? ⟨mb, mo, none⟩ = some v
theorem PastR.of {W0 : World} {gr gs mb mo : Nat} {R S : Obj} {v : Value} (hr : W0.heap[gr]? = some R) (hs : W0.heap[gs]? = some S) (hm : mb < W0.heap.size) (hv : W0.cell? ⟨mb, mo, none⟩ = some v) (W : World) (h : Below W0.heap.size W0 W) : PastR W0 gr gs mb mo R S v W :=
  ⟨h, (h.block _ (lt_of_block hr)).trans hr, (h.block _ (lt_of_block hs)).trans hs, (h.cell (p := ⟨mb, mo, none⟩) hm).trans hv⟩
/-- An epoch, its map, as the law holds them. -/
theorem PastW.at7 {W1 w : World} {B : MB} {es : List Int} {Ms : List (List Rw)} {a7 : Option Addr} {n7 c7 : Nat} {v8 : Value} {V : List Slc} (h : PastW W1 w B es Ms (.slice a7 n7 c7) v8 V) {k : Nat} (hk : k < es.length) :
    ∃ ob oo, a7 = some ⟨ob, oo, none⟩ ∧ ob < w.heap.size ∧ w.cell? ⟨ob, oo + k, none⟩ = some (.int .i64 es[k]) := by
  obtain ⟨ob, oo, e7, hob, h7⟩ := (h.oe.sl0 fun _ => rfl).at1 hk rfl
  rw [Nat.mul_one] at h7
  exact ⟨ob, oo, e7, hob, h7⟩
theorem PastW.at8 {W1 w : World} {B : MB} {es : List Int} {Ms : List (List Rw)} {a8 : Option Addr} {n8 c8 : Nat} {v7 : Value} {V : List Slc} (h : PastW W1 w B es Ms v7 (.slice a8 n8 c8) V) {k : Nat} (hk2 : k < Ms.length) :
    ∃ mb mo va vc, a8 = some ⟨mb, mo, none⟩ ∧ mb < w.heap.size ∧ w.cell? ⟨mb, mo + k, none⟩ = some (.slice va Ms[k].length vc) ∧
      Own 93 7 rowL W1.heap.size w (.slice va Ms[k].length vc) Ms[k] ∧ Ms[k].length ≤ vc := by
  have hv : k < V.length := by rw [h.lv]; exact hk2
  obtain ⟨mb, mo, e8, hmb, h8⟩ := (h.om.sl0 fun _ => rfl).at1 hv rfl
  rw [Nat.mul_one] at h8
  have hn := h.ln k hv hk2
  have hr := h.ro k hv hk2
  generalize V[k] = s at *
  obtain ⟨va, vn, vc⟩ := s
  dsimp only at hn
  subst hn
  obtain ⟨_, _, e, hle⟩ := hr.sl fun _ => rfl
  injection e with e1 e2 e3
  subst e1 e3
  exact ⟨mb, mo, va, vc, e8, hmb, h8, hr, hle.1⟩
/-- Rows that the law holds beside one model. -/
structure Kep (w : World) (B : MB) (lo : Nat) (v : Value) (xs : List Rw) : Prop where
  own : Own 93 7 rowL lo w v xs
  no : ∀ g, v.ownBlock = some g → B.lab g = .no
theorem Kep.turn {w w' : World} {B B' : MB} {lo : Nat} {v : Value} {xs : List Rw} (h : Kep w B lo v xs) (hT : Turn w w' B B') : Kep w' B' lo v xs :=
  ⟨h.own.turn hT h.no, fun g hg => (hT.away (h.no g hg) (h.own.ge hg).2).1⟩
theorem Kep.below {w w' : World} {B : MB} {lo : Nat} {v : Value} {xs : List Rw} (h : Kep w B lo v xs) (hb : Below w.heap.size w w') : Kep w' B lo v xs := ⟨h.own.below hb, h.no⟩
theorem wpList_buildP {P : Program} {ops : Array Oper} {Q : Exit → Act → World → Prop} {a : Act} {w : World} {rest : List Oper} {op : Oper} (hgd : op.guard = none) (t : TypeId) (parts : Array (Nat × Operand)) (ho : op.op = .build t parts) (cells : Array Value)
    (hc : P.built t (parts.map fun (i, x) => (i, a.eval x)).toList = some cells) (h : wpList P ops Q rest (a.put op.dst (.agg cells)) w) : wpList P ops Q (op :: rest) a w :=
  wpList_plain hgd fun _ hK => by
    unfold Oper.wp execOp
    simp only [ho, Sem.run_bind, run_build w t _ cells hc, Result.andThen_ok]
    exact hK _ _ h
/-- The first 256 rows of a map, cut out of it. -/
theorem past_cut {w : World} {va : Option Addr} {vc lo : Nat} {M : List Rw} (h : Own 93 7 rowL lo w (.slice va M.length vc) M) (hvc : M.length ≤ vc) {kk : Nat} (hk : (M.take 256).length = kk) :
    (∀ W, (Instr.slice 43 (.slice va M.length vc) none (some (.int .i64 (min (256 : Int) (M.length : Int)))) none).run Tryz.prog W = .ok (.slice va kk vc) W) ∧ Own 93 7 rowL lo w (.slice va kk vc) (M.take 256) := by
  have hkk : kk = (min (256 : Int) (M.length : Int)).toNat := by rw [← hk, List.length_take]; omega
  refine ⟨fun W => ?_, ?_⟩
  · rw [hkk]
    exact run_resl va M.length vc _ W (Own.from0 h) (by omega) (by omega)
  · have h1 := Own.takeS (sz := 7) (enc := rowL) (fun _ => rfl) h rfl kk (by omega)
    have e1 : M.take kk = M.take 256 := by
      by_cases hm : M.length ≤ 256
      · rw [List.take_of_length_le (by omega), List.take_of_length_le hm]
      · rw [show kk = 256 by omega]
    rw [e1] at h1
    exact h1
end Go.Proofs.YtaicecnfodhlcaaGreat
/- The walk of the law ModelPast. -/
set_option linter.unusedVariables false
set_option linter.unusedSimpArgs false
namespace Go.Proofs.YtaicecnfodhlcaaGreat
open Go.RowKit Go.Deep

set_option maxRecDepth 100000 in
set_option maxHeartbeats 40000000 in
theorem past_any (c : Cfg) (A : Option Addr) (cap : Nat) (A1 : Option Addr) (cap1 : Nat) (l : List Opx) (W : World)
    (hsv : Sl 3 viewL W A c.vs) (hcl : c.vs.length ≤ 9223372036854775807) (hsl : Sl 25 opL W A1 l) (hok : ∀ o ∈ l, OpOk W o) (hll : l.length ≤ 9223372036854775807) :
    Calls Tryz.prog 4 #[cfgV c A cap, .slice A1 l.length cap1] W fun e W' => e = .returned (.bool true) ∧ Below W.heap.size W W' := by
  go_enter Tryz.func4, Tryz.ntmps4
  go_wp2_with fail
  generalize hW1 : World.alloc W _ = W1
  have hb1 : Below W.heap.size W W1 := by rw [← hW1]; exact (Below.refl _ _).alloc (Nat.le_refl _) _
  have r0 : W1.heap[W.heap.size]? = some (cfgO { c with pi := 64 } A cap) := by rw [← hW1]; exact blk_at rfl
  clear hW1
  have hrr := refRight_any { c with pi := 64 } A cap W1 (hsv.below hb1) hcl
  have hhead := fun W' => head_any W'
  have Hb1 := Lib.hid hb1
  have R0 := Lib.hid r0
  clear hb1 r0
  cases hR : Cfg.right { c with pi := 64 }
  · rw [hR] at hrr
    refine hrr.mono ?_
    rintro e w2 ⟨rfl, hb2⟩
    clear hrr hR
    go_wp2_with fail
    refine (hhead _).mono ?_
    rintro e w3 ⟨rfl, hb3⟩
    go_wp2_with fail
    go_ret
    exact ⟨rfl, Hb1.out.trans ((hb2.trans (hb3.mono hb2.size)).mono Hb1.out.size)⟩
  · rw [hR] at hrr
    have HR := Lib.hid hR
    clear hR
    refine hrr.mono ?_
    rintro e w2 ⟨rfl, hb2⟩
    have r0' := (hb2.block _ (lt_of_block R0.out)).trans R0.out
    have u0 := cell_blk r0' 0
    have u1 := cell_blk r0' 1
    have u2 := cell_blk r0' 2
    have u3 := cell_blk r0' 3
    have u4 := cell_blk r0' 4
    have u5 := cell_blk r0' 5
    have u6 := cell_blk r0' 6
    have u7 := cell_blk r0' 7
    have u8 := cell_blk r0' 8
    have u9 := cell_blk r0' 9
    have u10 := cell_blk r0' 10
    have u11 := cell_blk r0' 11
    simp at u0 u1 u2 u3 u4 u5 u6 u7 u8 u9 u10 u11
    have hnew := Mine.new (w0 := W1) (c := { c with pi := 64 }) hb2 (hsv.below (Hb1.out.trans (hb2.mono Hb1.out.size))) HR.out (cap := cap)
    have Hb2 := Lib.hid hb2
    clear r0' hrr hb2
    go_wp2_with fail
    refine hnew.mono ?_
    rintro e w3 ⟨B0, rfl, hM3, hb3⟩
    have HM3 := Lib.hid hM3
    have HI3 : Hid (PastI (Mst.new { c with pi := 64 }) [] []) := Lib.hid (PastI.new _ rfl)
    generalize B0.mp = mp at *
    generalize Mst.new { c with pi := 64 } = T0 at *
    clear hnew hM3 hb3 u0 u1 u2 u3 u4 u5 u6 u7 u8 u9 u10 u11
    go_upto_block 0 with fail
    go_cut [7, 8, 9] from 42 to 199 (fun s7 s8 sI wx => ∃ (n : Nat) (T : Mst) (B : MB) (es : List Int) (Ms : List (List Rw)) (V : List Slc), n ≤ 130 ∧ es.length ≤ 60 ∧ Mine W1 wx mp B T n ∧ PastI T es Ms ∧ PastW W1 wx B es Ms s7 s8 V)
    case first =>
      go_wp2_with fail
      go_loopg [7, 8, 9] l.length (fun g ve vm i wr => ∃ (j n : Nat) (T : Mst) (B : MB) (es : List Int) (Ms : List (List Rw)) (V : List Slc), j + g = l.length ∧ i = .int .i64 j ∧ j ≤ 60 ∧ n ≤ 2 * j ∧ es.length ≤ j ∧ Mine W1 wr mp B T n ∧ PastI T es Ms ∧ PastW W1 wr B es Ms ve vm V)
      case atStart => exact ⟨0, 0, T0, B0, [], [], [], by omega, rfl, by omega, by omega, Nat.le_refl _, HM3.out, HI3.out, PastW.new _ _ _⟩
      case round =>
        obtain ⟨j, n, T, B, es, Ms, V, hj, rfl, hj60, hn, hel, hM, hI, hP⟩ := hrel
        obtain ⟨a7, c7, rfl, _⟩ := hP.oe.sl fun _ => rfl
        obtain ⟨a8, c8, rfl, _⟩ := hP.om.sl fun _ => rfl
        have Hj := Lib.hid hj
        have HM := Lib.hid hM
        have HI := Lib.hid hI
        have HP := Lib.hid hP
        clear hM hI hP hj
        by_cases hlt : j < l.length ∧ j < 60
        · obtain ⟨hlt, hl60⟩ := hlt
          have hjl : (j : Int) < (l.length : Int) := by omega
          have hjl60 : (j : Int) < 60 := by omega
          go_upto_if 54 with fail
          go_cut [7, 8] from 42 to 199 (fun s7 s8 wx => ∃ (n' : Nat) (T' : Mst) (B' : MB) (es' : List Int) (Ms' : List (List Rw)) (V' : List Slc), n' ≤ n + 1 ∧ es'.length ≤ es.length + 1 ∧ Mine W1 wx mp B' T' n' ∧ PastI T' es' Ms' ∧ PastW W1 wx B' es' Ms' s7 s8 V')
          case first =>
            have hmap := HM.out.map (by omega)
            go_wp2_with fail
            any_goals (go_meet; exact ⟨n, T, B, es, Ms, V, by omega, by omega, HM.out, HI.out, HP.out⟩)
            refine hmap.mono ?_
            rintro e w4 ⟨v4, rfl, ho4, hb4⟩
            obtain ⟨oa, oc, rfl, _⟩ := ho4.sl fun _ => rfl
            have HM4 := Lib.hid (HM.out.keep hb4)
            have HP4 := Lib.hid (HP.out.below hb4)
            have HO4 : Hid (∀ g, (Value.slice oa T.L.length oc).ownBlock = some g → B.lab g = .no) := Lib.hid (fun g hg => HM.out.away (ho4.ge hg).1)
            have Ho4 := Lib.hid (ho4.mono HM.out.below.size : Own 93 7 rowL W1.heap.size w4 (.slice oa T.L.length oc) T.L)
            clear hmap ho4 hb4
            have hask := HM4.out.ask (by omega) 64 ⟨4, (j : Int), 0, [], z0, z0, 0⟩ none 0 0 (Sl.nil _ _ _ _) (Nat.zero_le _)
            rw [HI.out.ask_pin HM4.out.md.inv (by omega) (by have := HM4.out.few.now; omega) (by omega) (by omega)] at hask
            dsimp only [Rq.at, Rsp.at, List.length] at hask
            have Hask := Lib.hid hask
            clear hask
            have hask := Hask.out
            go_upto_region 15 with (go_at_call 18; refine hask.mono ?_; rintro e w5 ⟨v5, B5, rfl, ho5, hM5, hT5, _⟩; obtain ⟨oa2, oc2, rfl, _⟩ := ho5.sl fun _ => rfl; have HM5 := Lib.hid hM5; have HT5 := Lib.hid hT5; clear hask ho5 hM5 hT5)
            generalize hWa : World.alloc w5 _ = wa
            have hba : Below w5.heap.size w5 wa := by rw [← hWa]; exact (Below.refl _ _).alloc (Nat.le_refl _) _
            have ra : wa.heap[w5.heap.size]? = some (.cells (respL 2 j 0 T.now (.slice oa2 0 oc2) 0 0 0 0 0 0) 50 (0, 0)) := by rw [← hWa]; exact blk_at rfl
            clear hWa
            have hMa : Mine W1 wa mp B5 (T.pinned 64) (n + 1) := HM5.out.keep hba
            have HPa := Lib.hid ((HP4.out.turn HT5.out).below hba)
            have Hoa := Lib.hid ((Ho4.out.turn HT5.out HO4.out).below hba)
            have HOa : Hid (∀ g, (Value.slice oa T.L.length oc).ownBlock = some g → B5.lab g = .no) := Lib.hid (fun g hg => (HT5.out.away (HO4.out g hg) (Ho4.out.ge hg).2).1)
            have hTl := HM.out.max (by omega)
            have hnow := HM.out.md.inv.now
            have hnow2 := HM.out.few.now
            have hstt : ∀ W', Below wa.heap.size wa W' → Calls Tryz.prog 16 #[.pointer (some ⟨mp, 0, none⟩)] W' fun e w' => e = .returned (statV T.cnt.t T.cnt.l T.cnt.o T.cnt.f T.L.length (T.now + 1)) ∧ Below W'.heap.size W' w' := fun W' h => (hMa.keep h).stats
            have hmap : ∀ W', Below wa.heap.size wa W' → Calls Tryz.prog 15 #[.pointer (some ⟨mp, 0, none⟩)] W' fun e w' => ∃ v, e = .returned v ∧ Own 93 7 rowL W'.heap.size w' v T.L ∧ Below W'.heap.size W' w' := fun W' h => (hMa.keep h).map (by omega)
            have hsam : ∀ (od : Option Addr) (cd : Nat) (W' : World), Sl 7 rowL W' od T.L → Below wa.heap.size wa W' → Calls Tryz.prog 20 #[.slice od T.L.length cd, .slice oa T.L.length oc] W' fun e w' => e = .returned (.bool true) ∧ Below W'.heap.size W' w' := fun od cd W' h1 h2 => by
              have := sameRows_any od cd T.L oa oc T.L W' h1 ((Hoa.out.sl0 (fun _ => rfl)).below h2) (by omega)
              simpa using this
            have hfd : ∀ Wz : World, (Instr.field 46 (statV T.cnt.t T.cnt.l T.cnt.o T.cnt.f T.L.length (T.now + 1)) 5).run Tryz.prog Wz = .ok (.int .i64 (T.now + 1)) Wz := fun _ => by kernel_rfl
            have HMa := Lib.hid hMa
            have Hra := Lib.hid ra
            have hw1 := wrapI T.now (by omega)
            clear hba hMa ra hnow hnow2
            go_cut [92] from 64 to 92 (fun s wx => s = .bool false ∧ Below wa.heap.size wa wx)
            case first =>
              as_aux_lemma =>
                have kS : ∀ W', Below wa.heap.size wa W' → (Below wa.heap.size wa W' ∧ W'.heap[w5.heap.size]? = some (.cells (respL 2 j 0 T.now (.slice oa2 0 oc2) 0 0 0 0 0 0) 50 (0, 0))) := fun W' h => ⟨h, (h.block _ (lt_of_block Hra.out)).trans Hra.out⟩
                have k0 := kS _ (Below.refl _ _).drew
                have Hwb0 := Lib.hid (Below.refl wa.heap.size wa).drew
                refine wp_region_held_drew (S := fun Wz => Below wa.heap.size wa Wz ∧ Wz.heap[w5.heap.size]? = some (.cells (respL 2 j 0 T.now (.slice oa2 0 oc2) 0 0 0 0 0 0) 50 (0, 0))) (by kernel_rfl) k0 (fun hHeld => ?_)
                refine wpAnyH_takeD (i := 0) (oi := _) (d := 64) (v := ?vp0) rfl (by kernel_rfl) (by kernel_rfl) (by kernel_rfl) (by kernel_rfl) (fun _ _ _ h => h) (Or.inl ⟨by kernel_rfl, ?yp0⟩) (by assumption) ?rp0
                case yp0 =>
                  intro w' hSw
                  try dsimp only at hSw
                  go_simp
                  try with_reducible rfl
                try simp only [Act.put, List.setIfInBounds_toArray, List.set_cons_zero, List.set_cons_succ]
                refine wpAnyH_takeD (i := 1) (oi := _) (d := 65) (v := ?vp1) rfl (by kernel_rfl) (by kernel_rfl) (by kernel_rfl) (by kernel_rfl) (fun _ _ _ h => h) (Or.inl ⟨by kernel_rfl, ?yp1⟩) (by assumption) ?rp1
                case yp1 =>
                  intro w' hSw
                  try dsimp only at hSw
                  go_simp
                  try with_reducible rfl
                try simp only [Act.put, List.setIfInBounds_toArray, List.set_cons_zero, List.set_cons_succ]
                refine wpAnyH_takeD (i := 2) (oi := _) (d := 66) (v := ?vp2) rfl (by kernel_rfl) (by kernel_rfl) (by kernel_rfl) (by kernel_rfl) (fun _ _ _ h => h) (Or.inl ⟨by kernel_rfl, ?yp2⟩) (by assumption) ?rp2
                case yp2 =>
                  intro w' hSw
                  try dsimp only at hSw
                  go_simp
                  try with_reducible rfl
                try simp only [Act.put, List.setIfInBounds_toArray, List.set_cons_zero, List.set_cons_succ]
                refine wpAnyH_takeD (i := 3) (oi := _) (d := 67) (v := ?vp3) rfl (by kernel_rfl) (by kernel_rfl) (by kernel_rfl) (by kernel_rfl) (fun _ _ _ h => h) (Or.inl ⟨by kernel_rfl, ?yp3⟩) (by assumption) ?rp3
                case yp3 =>
                  intro w' hSw
                  try dsimp only at hSw
                  go_simp
                  try with_reducible rfl
                try simp only [Act.put, List.setIfInBounds_toArray, List.set_cons_zero, List.set_cons_succ]
                refine wpAnyH_takeD (i := 4) (oi := _) (d := 68) (v := ?vp4) rfl (by kernel_rfl) (by kernel_rfl) (by kernel_rfl) (by kernel_rfl) (fun _ _ _ h => h) (Or.inl ⟨by kernel_rfl, ?yp4⟩) (by assumption) ?rp4
                case yp4 =>
                  intro w' hSw
                  obtain ⟨sB, sR⟩ := hSw
                  have x0 := cell_blk sR 0
                  simp at x0
                  go_simp
                  try with_reducible rfl
                try simp only [Act.put, List.setIfInBounds_toArray, List.set_cons_zero, List.set_cons_succ]
                refine wpAnyH_takeD (i := 5) (oi := _) (d := 69) (v := ?vp5) rfl (by kernel_rfl) (by kernel_rfl) (by kernel_rfl) (by kernel_rfl) (fun _ _ _ h => h) (Or.inl ⟨by kernel_rfl, ?yp5⟩) (by assumption) ?rp5
                case yp5 =>
                  intro w' hSw
                  try dsimp only at hSw
                  go_simp
                  try with_reducible rfl
                try simp only [Act.put, List.setIfInBounds_toArray, List.set_cons_zero, List.set_cons_succ]
                refine wpAnyH_takeD (i := 6) (oi := _) (d := 70) (v := ?vp6) rfl (by kernel_rfl) (by kernel_rfl) (by kernel_rfl) (by kernel_rfl) (fun _ _ _ h => h) (Or.inl ⟨by kernel_rfl, ?yp6⟩) (by assumption) ?rp6
                case yp6 =>
                  intro w' hSw
                  try dsimp only at hSw
                  go_simp
                  try with_reducible rfl
                try simp only [Act.put, List.setIfInBounds_toArray, List.set_cons_zero, List.set_cons_succ]
                refine wpAnyH_takeD (i := 7) (oi := _) (d := 71) (v := ?vp7) rfl (by kernel_rfl) (by kernel_rfl) (by kernel_rfl) (by kernel_rfl) (fun _ _ _ h => h) (Or.inl ⟨by kernel_rfl, ?yp7⟩) (by assumption) ?rp7
                case yp7 =>
                  intro w' hSw
                  try dsimp only at hSw
                  go_simp
                  try with_reducible rfl
                try simp only [Act.put, List.setIfInBounds_toArray, List.set_cons_zero, List.set_cons_succ]
                refine wpAnyH_takeD (i := 8) (oi := _) (d := 72) (v := ?vp8) rfl (by kernel_rfl) (by kernel_rfl) (by kernel_rfl) (by kernel_rfl) (fun _ _ _ h => h) (Or.inl ⟨by kernel_rfl, ?yp8⟩) (by assumption) ?rp8
                case yp8 =>
                  intro w' hSw
                  try dsimp only at hSw
                  go_simp
                  try with_reducible rfl
                try simp only [Act.put, List.setIfInBounds_toArray, List.set_cons_zero, List.set_cons_succ]
                refine wpAnyH_takeD (i := 9) (oi := _) (d := 73) (v := ?vp9) rfl (by kernel_rfl) (by kernel_rfl) (by kernel_rfl) (by kernel_rfl) (fun _ _ _ h => h) (Or.inl ⟨by kernel_rfl, ?yp9⟩) (by assumption) ?rp9
                case yp9 =>
                  intro w' hSw
                  obtain ⟨sB, sR⟩ := hSw
                  have x3 := cell_blk sR 3
                  simp at x3
                  go_simp
                  try with_reducible rfl
                try simp only [Act.put, List.setIfInBounds_toArray, List.set_cons_zero, List.set_cons_succ]
                refine wpAnyH_takeD (i := 10) (oi := _) (d := 74) (v := ?vp10) rfl (by kernel_rfl) (by kernel_rfl) (by kernel_rfl) (by kernel_rfl) (fun _ _ _ h => h) (Or.inl ⟨by kernel_rfl, ?yp10⟩) (by assumption) ?rp10
                case yp10 =>
                  intro w' hSw
                  try dsimp only at hSw
                  go_simp
                  try with_reducible rfl
                try simp only [Act.put, List.setIfInBounds_toArray, List.set_cons_zero, List.set_cons_succ]
                refine wpAnyH_ready (rs := [11]) (by kernel_rfl) (by simp) ?_
                refine AllReadyH.cons (o := _) rfl (fun K hK => ?_) AllReadyH.nil
                go_simp
                go_at_call 16
                refine (hstt _ Hwb0.out).mono ?_
                rintro e wd ⟨rfl, hbwd⟩
                have hb0 : Below wa.heap.size wa wd := Hwb0.out.trans (hbwd.mono Hwb0.out.size)
                have kwd := kS wd hb0
                have Hwd := Lib.hid hb0
                clear hbwd hb0
                refine hK.out _ _ kwd (fun _ => ?_)
                clear hK K
                try simp only [Act.put, List.setIfInBounds_toArray, List.set_cons_zero, List.set_cons_succ]
                refine wpAnyH_takeD (i := 12) (oi := _) (d := 76) (v := ?vp12) rfl (by kernel_rfl) (by kernel_rfl) (by kernel_rfl) (by kernel_rfl) (fun _ _ _ h => h) (Or.inl ⟨by kernel_rfl, ?yp12⟩) (by assumption) ?rp12
                case yp12 =>
                  intro w' hSw
                  try dsimp only at hSw
                  go_simp
                  try with_reducible rfl
                try simp only [Act.put, List.setIfInBounds_toArray, List.set_cons_zero, List.set_cons_succ]
                refine wpAnyH_takeD (i := 13) (oi := _) (d := 77) (v := ?vp13) rfl (by kernel_rfl) (by kernel_rfl) (by kernel_rfl) (by kernel_rfl) (fun _ _ _ h => h) (Or.inl ⟨by kernel_rfl, ?yp13⟩) (by assumption) ?rp13
                case yp13 =>
                  intro w' hSw
                  try dsimp only at hSw
                  go_simp
                  try with_reducible rfl
                try simp only [Act.put, List.setIfInBounds_toArray, List.set_cons_zero, List.set_cons_succ]
                refine wpAnyH_takeD (i := 14) (oi := _) (d := 78) (v := ?vp14) rfl (by kernel_rfl) (by kernel_rfl) (by kernel_rfl) (by kernel_rfl) (fun _ _ _ h => h) (Or.inl ⟨by kernel_rfl, ?yp14⟩) (by assumption) ?rp14
                case yp14 =>
                  intro w' hSw
                  try dsimp only at hSw
                  go_simp
                  try with_reducible rfl
                try simp only [Act.put, List.setIfInBounds_toArray, List.set_cons_zero, List.set_cons_succ]
                refine wpAnyH_takeD (i := 15) (oi := _) (d := 79) (v := ?vp15) rfl (by kernel_rfl) (by kernel_rfl) (by kernel_rfl) (by kernel_rfl) (fun _ _ _ h => h) (Or.inl ⟨by kernel_rfl, ?yp15⟩) (by assumption) ?rp15
                case yp15 =>
                  intro w' hSw
                  try dsimp only at hSw
                  go_simp
                  try with_reducible rfl
                try simp only [Act.put, List.setIfInBounds_toArray, List.set_cons_zero, List.set_cons_succ]
                refine wpAnyH_takeD (i := 16) (oi := _) (d := 80) (v := ?vp16) rfl (by kernel_rfl) (by kernel_rfl) (by kernel_rfl) (by kernel_rfl) (fun _ _ _ h => h) (Or.inl ⟨by kernel_rfl, ?yp16⟩) (by assumption) ?rp16
                case yp16 =>
                  intro w' hSw
                  try dsimp only at hSw
                  go_simp
                  try with_reducible rfl
                try simp only [Act.put, List.setIfInBounds_toArray, List.set_cons_zero, List.set_cons_succ]
                refine wpAnyH_takeD (i := 17) (oi := _) (d := 81) (v := ?vp17) rfl (by kernel_rfl) (by kernel_rfl) (by kernel_rfl) (by kernel_rfl) (fun _ _ _ h => h) (Or.inl ⟨by kernel_rfl, ?yp17⟩) (by assumption) ?rp17
                case yp17 =>
                  intro w' hSw
                  try dsimp only at hSw
                  go_simp
                  try with_reducible rfl
                try simp only [Act.put, List.setIfInBounds_toArray, List.set_cons_zero, List.set_cons_succ]
                refine wpAnyH_takeD (i := 18) (oi := _) (d := 82) (v := ?vp18) rfl (by kernel_rfl) (by kernel_rfl) (by kernel_rfl) (by kernel_rfl) (fun _ _ _ h => h) (Or.inl ⟨by kernel_rfl, ?yp18⟩) (by assumption) ?rp18
                case yp18 =>
                  intro w' hSw
                  obtain ⟨sB, sR⟩ := hSw
                  have x1 := cell_blk sR 1
                  simp at x1
                  go_simp
                  try with_reducible rfl
                try simp only [Act.put, List.setIfInBounds_toArray, List.set_cons_zero, List.set_cons_succ]
                refine wpAnyH_takeD (i := 19) (oi := _) (d := 83) (v := ?vp19) rfl (by kernel_rfl) (by kernel_rfl) (by kernel_rfl) (by kernel_rfl) (fun _ _ _ h => h) (Or.inl ⟨by kernel_rfl, ?yp19⟩) (by assumption) ?rp19
                case yp19 =>
                  intro w' hSw
                  try dsimp only at hSw
                  go_simp
                  try with_reducible rfl
                try simp only [Act.put, List.setIfInBounds_toArray, List.set_cons_zero, List.set_cons_succ]
                refine wpAnyH_takeD (i := 20) (oi := _) (d := 84) (v := ?vp20) rfl (by kernel_rfl) (by kernel_rfl) (by kernel_rfl) (by kernel_rfl) (fun _ _ _ h => h) (Or.inl ⟨by kernel_rfl, ?yp20⟩) (by assumption) ?rp20
                case yp20 =>
                  intro w' hSw
                  try dsimp only at hSw
                  go_simp
                  try with_reducible rfl
                try simp only [Act.put, List.setIfInBounds_toArray, List.set_cons_zero, List.set_cons_succ]
                refine wpAnyH_takeD (i := 21) (oi := _) (d := 85) (v := ?vp21) rfl (by kernel_rfl) (by kernel_rfl) (by kernel_rfl) (by kernel_rfl) (fun _ _ _ h => h) (Or.inl ⟨by kernel_rfl, ?yp21⟩) (by assumption) ?rp21
                case yp21 =>
                  intro w' hSw
                  try dsimp only at hSw
                  go_simp
                  try with_reducible rfl
                try simp only [Act.put, List.setIfInBounds_toArray, List.set_cons_zero, List.set_cons_succ]
                refine wpAnyH_takeD (i := 22) (oi := _) (d := 86) (v := ?vp22) rfl (by kernel_rfl) (by kernel_rfl) (by kernel_rfl) (by kernel_rfl) (fun _ _ _ h => h) (Or.inl ⟨by kernel_rfl, ?yp22⟩) (by assumption) ?rp22
                case yp22 =>
                  intro w' hSw
                  try dsimp only at hSw
                  go_simp
                  try with_reducible rfl
                try simp only [Act.put, List.setIfInBounds_toArray, List.set_cons_zero, List.set_cons_succ]
                refine wpAnyH_takeD (i := 23) (oi := _) (d := 87) (v := ?vp23) rfl (by kernel_rfl) (by kernel_rfl) (by kernel_rfl) (by kernel_rfl) (fun _ _ _ h => h) (Or.inl ⟨by kernel_rfl, ?yp23⟩) (by assumption) ?rp23
                case yp23 =>
                  intro w' hSw
                  try dsimp only at hSw
                  go_simp
                  try with_reducible rfl
                try simp only [Act.put, List.setIfInBounds_toArray, List.set_cons_zero, List.set_cons_succ]
                refine wpAnyH_takeD (i := 25) (oi := _) (d := 89) (v := ?vp25) rfl (by kernel_rfl) (by kernel_rfl) (by kernel_rfl) (by kernel_rfl) (fun _ _ _ h => h) (Or.inl ⟨by kernel_rfl, ?yp25⟩) (by assumption) ?rp25
                case yp25 =>
                  intro w' hSw
                  try dsimp only at hSw
                  go_simp
                  try with_reducible rfl
                try simp only [Act.put, List.setIfInBounds_toArray, List.set_cons_zero, List.set_cons_succ]
                refine wpAnyH_ready (rs := [24]) (by kernel_rfl) (by simp) ?_
                refine AllReadyH.cons (o := _) rfl (fun K hK => ?_) AllReadyH.nil
                go_simp
                go_at_call 15
                refine (hmap _ Hwd.out).mono ?_
                rintro e we ⟨vd, rfl, hod, hbwe⟩
                obtain ⟨od, cd, rfl, _⟩ := hod.sl fun _ => rfl
                have hsm := hsam od cd we (hod.sl0 (fun _ => rfl)) (Hwd.out.trans (hbwe.mono Hwd.out.size))
                clear hod
                have hb0 : Below wa.heap.size wa we := Hwd.out.trans (hbwe.mono Hwd.out.size)
                have kwe := kS we hb0
                have Hwe := Lib.hid hb0
                clear hbwe hb0
                refine hK.out _ _ kwe (fun _ => ?_)
                clear hK K
                try simp only [Act.put, List.setIfInBounds_toArray, List.set_cons_zero, List.set_cons_succ]
                refine wpAnyH_ready (rs := [26]) (by kernel_rfl) (by simp) ?_
                refine AllReadyH.cons (o := _) rfl (fun K hK => ?_) AllReadyH.nil
                go_simp
                go_at_call 20
                refine (hsm).mono ?_
                rintro e wf ⟨rfl, hbwf⟩
                have hb0 : Below wa.heap.size wa wf := Hwe.out.trans (hbwf.mono Hwe.out.size)
                have kwf := kS wf hb0
                have Hwf := Lib.hid hb0
                clear hbwf hb0
                refine hK.out _ _ kwf (fun _ => ?_)
                clear hK K
                try simp only [Act.put, List.setIfInBounds_toArray, List.set_cons_zero, List.set_cons_succ]
                refine wpAnyH_takeD (i := 27) (oi := _) (d := 91) (v := ?vp27) rfl (by kernel_rfl) (by kernel_rfl) (by kernel_rfl) (by kernel_rfl) (fun _ _ _ h => h) (Or.inl ⟨by kernel_rfl, ?yp27⟩) (by assumption) ?rp27
                case yp27 =>
                  intro w' hSw
                  try dsimp only at hSw
                  go_simp
                  try with_reducible rfl
                try simp only [Act.put, List.setIfInBounds_toArray, List.set_cons_zero, List.set_cons_succ]
                refine wpAnyH_takeD (i := 28) (oi := _) (d := 92) (v := ?vp28) rfl (by kernel_rfl) (by kernel_rfl) (by kernel_rfl) (by kernel_rfl) (fun _ _ _ h => h) (Or.inl ⟨by kernel_rfl, ?yp28⟩) (by assumption) ?rp28
                case yp28 =>
                  intro w' hSw
                  try dsimp only at hSw
                  go_simp
                  try with_reducible rfl
                try simp only [Act.put, List.setIfInBounds_toArray, List.set_cons_zero, List.set_cons_succ]
                refine wpAnyH_done (by kernel_rfl) ?_ _
                go_wp2_with fail
                go_meet
                exact ⟨rfl, Hwf.out⟩
            case rest =>
              obtain ⟨rfl, hbx⟩ := hcut
              have hMx := HMa.out.keep hbx
              have HPx := Lib.hid (HPa.out.below hbx)
              have Hox := Lib.hid (Hoa.out.below hbx)
              have rx := (hbx.block _ (lt_of_block Hra.out)).trans Hra.out
              have y3 := cell_blk rx 3
              simp at y3
              have HMx := Lib.hid hMx
              have HIx := Lib.hid (HI.out.pin HM.out.md.inv)
              have hal : ∀ o : Obj, Below wc.heap.size wc (wc.alloc o) := fun o => (Below.refl _ _).alloc (Nat.le_refl _) o
              have Hoe := Lib.hid (fun o => HPx.out.oe.below (hal o))
              have Hsl := Lib.hid (sl_new (sz := 1) (enc := intE) T.now wc 3 (cs := #[.int .i64 T.now]) rfl)
              have Hal := Lib.hid hal
              have Hzw := Lib.hid (show ∀ o : Obj, W1.heap.size ≤ (wc.alloc o).heap.size from fun o => Nat.le_trans HMx.out.below.size (hal o).size)
              clear hMx rx hal hstt hmap hsam hfd hw1 hTl hbx
              go_wp2_with (at_builtin; (refine wpList_app2 st_ints rfl _ _ rfl intE (fun _ => rfl) cells1_int W1.heap.size _ es rfl (Hoe.out _) wc.heap.size 0 1 1 [T.now] rfl rfl (by decide) Hsl.out (by show es.length + 1 ≤ _; omega) (by decide) (Hzw.out _) ?_))
              intro v7 w7 ho7 hg7
              have hgr : Grew (wc.alloc (.cells #[.int .i64 T.now] 3)) w7 (.slice a7 es.length c7) v7 := by unfold Grew; simpa using hg7
              have HP7 := Lib.hid ((HPx.out.below (Hal.out _)).pushE ho7 hgr (HMx.out.away (Hal.out _).size))
              have HM7 := Lib.hid ((HMx.out.keep (Hal.out _)).chgP (Grew.chg hgr) (fun g hg => ⟨HPx.out.ne g hg, (HPx.out.oe.ge hg).1⟩))
              have Ho7 := Lib.hid ((HPx.out.below (Hal.out _)).rowsE (Hox.out.below (Hal.out _)) hgr)
              have hlm := HP7.out.lv
              have hlm2 := HIx.out.len
              have hVl : V.length ≤ 60 := by rw [hlm]; simp at hlm2; omega
              have hal7 : ∀ o : Obj, Below w7.heap.size w7 (w7.alloc o) := fun o => (Below.refl _ _).alloc (Nat.le_refl _) o
              have Hom := Lib.hid (fun o => HP7.out.om.below (hal7 o))
              have Hsl7 := Lib.hid (sl_new (sz := 1) (enc := sliceL) (⟨oa, T.L.length, oc⟩ : Slc) w7 43 (cs := #[.slice oa T.L.length oc]) rfl)
              have Hal7 := Lib.hid hal7
              have Hzw7 := Lib.hid (show ∀ o : Obj, W1.heap.size ≤ (w7.alloc o).heap.size from fun o => Nat.le_trans HM7.out.below.size (hal7 o).size)
              clear ho7 hg7 hgr y3 hlm hlm2 hal7
              go_wp2_with (at_builtin; (refine wpList_app2 st_rowss rfl _ _ rfl sliceL (fun _ => rfl) cells1_slc W1.heap.size _ V rfl (Hom.out _) w7.heap.size 0 1 1 [(⟨oa, T.L.length, oc⟩ : Slc)] rfl rfl (by decide) Hsl7.out (by show V.length + 1 ≤ _; omega) (by decide) (Hzw7.out _) ?_))
              intro v8 w8 ho8 hg8
              have hgr : Grew (w7.alloc (.cells #[.slice oa T.L.length oc] 43)) w8 (.slice a8 V.length c8) v8 := by unfold Grew; simpa using hg8
              have HP8 := Lib.hid ((HP7.out.below (Hal7.out _)).pushM (M := T.L) ho8 hgr (HM7.out.away (Hal7.out _).size) rfl (Ho7.out.below (Hal7.out _)) HOa.out)
              have HM8 := Lib.hid ((HM7.out.keep (Hal7.out _)).chgP (Grew.chg hgr) (fun g hg => ⟨HP7.out.nm g hg, (HP7.out.om.ge hg).1⟩))
              clear ho8 hg8 hgr
              go_wp2_with fail
              go_meet
              exact ⟨n + 1, T.pinned 64, B5, es ++ [T.now], Ms ++ [T.L], V ++ [⟨oa, T.L.length, oc⟩], by omega, by simp, HM8.out, HIx.out, HP8.out⟩
          case rest =>
            obtain ⟨n1, T1, B1, es1, Ms1, V1, hn1, hel1, hM1, hI1, hP1⟩ := hcut
            obtain ⟨b7, d7, rfl, _⟩ := hP1.oe.sl fun _ => rfl
            obtain ⟨b8, d8, rfl, _⟩ := hP1.om.sl fun _ => rfl
            obtain ⟨xb, xo, hAe, hxb, hXc⟩ := hsl.at_op hlt
            have hox := hok _ (List.getElem_mem hlt)
            generalize l[j] = x at *
            have hbw : Below W.heap.size W wc := Hb1.out.trans (hM1.below.mono Hb1.out.size)
            have Hra := Lib.hid (fun jj v (hv : (opL x)[jj]? = some v) => (hbw.cell (p := ⟨xb, xo + j * 25 + jj, none⟩) hxb).trans (hXc jj v hv))
            have Hox := Lib.hid (hox.below hbw)
            have HM1 := Lib.hid hM1
            have HI1 := Lib.hid hI1
            have HP1 := Lib.hid hP1
            clear hM1 hI1 hP1 hbw hox hXc hxb HM HI HP
            subst hAe
            go_upto_region 20 with (first | (refine wpList_load_mid (ty := 41) rfl _ rfl xb _ rfl (opL x) _ (Hra.out) Tryz.underlying41 rfl (by kernel_rfl) ?_) | (refine wpList_store_mid rfl 41 _ _ rfl wc.heap.size 0 (opL x).toArray ?hxO ?hyO ?htO ?hiO ?h1O ?hrO; (case hxO => exact rfl); (case hyO => exact rfl); (case htO => exact there_new _ _ _); (case hiO => kernel_rfl); (case h1O => kernel_rfl)))
            generalize hw : World.setCells _ wc.heap.size 0 _ = wd
            have hbd : Below wc.heap.size wc wd := by rw [← hw]; refine (new_set wc _ _ _ ?_).1; rfl
            have hgd : wd.heap[wc.heap.size]? = some (.cells (opL x).toArray 41 (0, 0)) := by rw [← hw]; refine (new_set wc _ _ _ ?_).2; rfl
            clear hw
            have y12 := cell_blk hgd 12
            simp at y12
            have rf := frozen_blk hgd
            have hwin := within_any x.se 60 wd (by decide) (by decide)
            have hwb := wi_bounds x.se 60 (by decide)
            generalize wi x.se 60 = s0 at *
            have hw1 : -1 ≤ s0 := by omega
            have Hgd := Lib.hid hgd
            have Hbd := Lib.hid hbd
            clear hgd hbd
            go_upto_region 21 with (go_at_call 17; refine hwin.mono ?_; rintro e we ⟨rfl, rfl⟩)
            generalize hw : World.setCell wd _ _ = wd2
            have hcd : Chg [wc.heap.size] wd wd2 := by rw [← hw]; exact Chg.set _ (by simp) _
            obtain ⟨x2, hx2⟩ : ∃ x2 : Opx, x2 = { x with se := 1 + s0 } := ⟨_, rfl⟩
            have hg2 : wd2.heap[wc.heap.size]? = some (.cells (opL x2).toArray 41 (0, 0)) := by rw [← hw, hx2]; exact set_obj Hgd.out 12 _
            have hb2 : Below wc.heap.size wc wd2 := Below.chain Hbd.out hcd Hbd.out.size (fun g hg => by rw [List.mem_singleton.1 hg]; exact Nat.le_refl _)
            have hox2 : OpOk wd2 x2 := by rw [hx2]; exact ⟨(Hox.out.below hb2).cells, Hox.out.key, Hox.out.val, Hox.out.len, Hox.out.cap⟩
            have hse : x2.se ≤ 60 := by rw [hx2]; show 1 + s0 ≤ 60; omega
            have HM2 := Lib.hid (HM1.out.keep hb2)
            have HP2 := Lib.hid (HP1.out.below hb2)
            have Hg2 := Lib.hid hg2
            have Hox2 := Lib.hid hox2
            have Hse := Lib.hid hse
            have hsm := small2_any x2 wd2
            have hno := HM1.out.away (Nat.le_refl wc.heap.size)
            have Hno := Lib.hid hno
            clear hw hcd hx2 hg2 hb2 hox2 hse y12 rf hwin hwb hw1 hno
            go_upto_if 112 with (first | (refine wpList_load_row rfl 41 _ rfl wc.heap.size rfl _ _ (0, 0) _ Hg2.out Tryz.underlying41 rfl (by kernel_rfl) ?_) | (go_at_call 13; refine hsm.mono ?_; rintro e w5 ⟨rfl, hb5⟩; have HM5 := Lib.hid (HM2.out.keep hb5); have HP5 := Lib.hid (HP2.out.below hb5); have Hg5 := Lib.hid ((hb5.block _ (lt_of_block Hg2.out)).trans Hg2.out); have Hox5 := Lib.hid (Hox2.out.below hb5); clear hsm hb5))
            go_cut [] from 42 to 199 (fun wx => ∃ (n' : Nat) (T' : Mst) (B' : MB), n' ≤ n + 2 ∧ Mine W1 wx mp B' T' n' ∧ PastI T' es1 Ms1 ∧ PastW W1 wx B' es1 Ms1 (.slice b7 es1.length d7) (.slice b8 V1.length d8) V1)
            case first =>
              cases hs : decide (x2.q.cells.length ≤ 100)
              · go_wp2_with fail
                go_meet
                exact ⟨n1, T1, B1, by omega, HM5.out, HI1.out, HP5.out⟩
              · have hact := HM5.out.act2 (by omega) x2 Hox5.out (of_decide_eq_true hs)
                go_wp2_with (refine wpList_load_row rfl 41 _ rfl wc.heap.size rfl _ _ (0, 0) _ Hg5.out Tryz.underlying41 rfl (by kernel_rfl) ?_)
                refine hact.mono ?_
                rintro e w6 ⟨rfl, B', hM6, hT6⟩
                have HP6 := Lib.hid (HP5.out.turn hT6)
                have HM6 := Lib.hid hM6
                clear hM6 hT6 hact
                go_wp2_with fail
                go_meet
                exact ⟨n1 + 1, _, B', by omega, HM6.out, HI1.out.stays (Stays.act HM5.out.md.inv x2 Hse.out), HP6.out⟩
            case rest =>
              obtain ⟨n2, T2, B2, hn2, hM2, hI2, hP2⟩ := hcut
              have hel2 : es1.length ≤ 60 := by omega
              clear HM2 HP2
              have HM2 := Lib.hid hM2
              have HI2 := Lib.hid hI2
              have HP2 := Lib.hid hP2
              clear hM2 hI2 hP2
              go_wp2_with fail
              go_loopg [14] es1.length (fun g i wq => ∃ (m : Nat) (B' : MB), m + g = es1.length ∧ i = .int .i64 m ∧ Mine W1 wq mp B' T2 n2 ∧ PastW W1 wq B' es1 Ms1 (.slice b7 es1.length d7) (.slice b8 V1.length d8) V1)
              case atStart => exact ⟨0, B2, by omega, rfl, HM2.out, HP2.out⟩
              case round =>
                obtain ⟨m, Bm, hm, rfl, hMm, hPm⟩ := hrel
                have Hm := Lib.hid hm
                have HMm := Lib.hid hMm
                have HPm := Lib.hid hPm
                clear hm hMm hPm
                by_cases hlt2 : m < es1.length
                · have hml : m < Ms1.length := by rw [← HI2.out.len]; exact hlt2
                  have hmi : (m : Int) < (es1.length : Int) := by omega
                  obtain ⟨ob, oo, rfl, hob, h7⟩ := HPm.out.at7 hlt2
                  have hat := past_at HMm.out HI2.out (by omega) hlt2 hml
                  have hsc := fun (W' : World) (B' : MB) (h : Mine W1 W' mp B' T2 n2) => past_scan h HI2.out (by omega) hlt2 hml
                  have h63 := fun (W' : World) (B' : MB) (h : Mine W1 W' mp B' T2 n2) => past_63 h HI2.out (by omega) hlt2
                  have hMl : Ms1[m].length ≤ 100000000 := HMm.out.maxE (by omega) _ _ (HI2.out.sl m hlt2 hml)
                  obtain ⟨M, hME⟩ : ∃ M, Ms1[m] = M := ⟨_, rfl⟩
                  obtain ⟨kk, hkk⟩ : ∃ kk, (M.take 256).length = kk := ⟨_, rfl⟩
                  simp only [hME, hkk] at hat hsc hMl
                  generalize es1[m] = x at *
                  have HME := Lib.hid hME
                  have Hkk := Lib.hid hkk
                  have Hsc := Lib.hid hsc
                  have H63 := Lib.hid h63
                  have HMl := Lib.hid hMl
                  clear hME hkk hsc h63 hMl
                  go_upto_region 28 with (first | (go_at_call 23; refine hat.mono ?_; rintro e w4 ⟨aa, ac, rfl, hoa, hb4⟩; have h74 := (hb4.cell (p := ⟨ob, oo + m, none⟩) hob).trans h7; have Ka := Lib.hid (Kep.mk hoa fun g hg => HMm.out.away (hoa.ge hg).1); have HM4 := Lib.hid (HMm.out.keep hb4); have HP4 := Lib.hid (HPm.out.below hb4); clear hat hoa hb4 h7) | (refine wpList_buildP (t := 30) rfl _ rfl (scanA x) (by kernel_rfl) ?_) | (refine wpList_buildP (t := 28) rfl _ rfl #[.int .i64 4, .string ⟨#[]⟩, .int .i64 0] (by kernel_rfl) ?_))
                  generalize hWq : World.alloc w4 _ = wq
                  have hbq : Below w4.heap.size w4 wq := by rw [← hWq]; exact (Below.refl _ _).alloc (Nat.le_refl _) _
                  have hdq : Blk wq Bm w4.heap.size (.cells (scanA x) 30 (0, 0)) := ⟨by rw [← hWq]; exact blk_at rfl, HM4.out.away (Nat.le_refl _)⟩
                  have HMq := Lib.hid (HM4.out.keep hbq)
                  have HPq := Lib.hid (HP4.out.below hbq)
                  have Kaq := Lib.hid (Ka.out.below hbq)
                  have Dq := Lib.hid hdq
                  have hs1 := Hsc.out _ _ HMq.out
                  clear hWq hbq hdq h74 HMm HPm HM4 HP4 Ka
                  go_upto_region 29 with (first | (refine wpList_load_row rfl 30 _ rfl w4.heap.size rfl _ _ (0, 0) _ Dq.out.at_ Tryz.underlying30 rfl (by kernel_rfl) ?_) | (go_at_call 18; refine hs1.mono ?_; rintro e w5 ⟨ra, rc, B5, rfl, hor, hM5, hT5, hrn⟩; have Kr5 := Lib.hid (Kep.mk hor hrn); have HM5 := Lib.hid hM5; have HP5 := Lib.hid (HPq.out.turn hT5); have Ka5 := Lib.hid (Kaq.out.turn hT5); have Dq5 := Lib.hid (Dq.out.turn hT5); clear hs1 hor hM5 hT5 hrn))
                  generalize hWr : World.alloc w5 _ = wr1
                  have hbr : Below w5.heap.size w5 wr1 := by rw [← hWr]; exact (Below.refl _ _).alloc (Nat.le_refl _) _
                  have hdr : Blk wr1 B5 w5.heap.size (.cells (respL 1 0 0 0 (.slice ra kk rc) 0 0 0 0 0 0) 50 (0, 0)) := ⟨by rw [← hWr]; exact blk_at rfl, HM5.out.away (Nat.le_refl _)⟩
                  have HMr := Lib.hid (HM5.out.keep hbr)
                  have HPr := Lib.hid (HP5.out.below hbr)
                  have Kar := Lib.hid (Ka5.out.below hbr)
                  have Krr := Lib.hid (Kr5.out.below hbr)
                  have Dqr := Lib.hid (Dq5.out.below hbr)
                  have Drr := Lib.hid hdr
                  have hs2 := H63.out _ _ HMr.out
                  clear hWr hbr hdr HMq HPq Kaq Dq HM5 HP5 Ka5 Kr5 Dq5
                  go_upto_region 30 with (first | (refine wpList_load_row rfl 30 _ rfl w4.heap.size rfl _ _ (0, 0) _ Dqr.out.at_ Tryz.underlying30 rfl (by kernel_rfl) ?_) | (go_at_call 18; refine hs2.mono ?_; rintro e w6 ⟨sa, sc, B6, rfl, hM6, hT6⟩; have HM6 := Lib.hid hM6; have HP6 := Lib.hid (HPr.out.turn hT6); have Ka6 := Lib.hid (Kar.out.turn hT6); have Kr6 := Lib.hid (Krr.out.turn hT6); have Dr6 := Lib.hid (Drr.out.turn hT6); clear hs2 hM6 hT6))
                  generalize hWs : World.alloc w6 _ = wa
                  have hbs : Below w6.heap.size w6 wa := by rw [← hWs]; exact (Below.refl _ _).alloc (Nat.le_refl _) _
                  have hds : wa.heap[w6.heap.size]? = some (.cells (respL 5 0 33 0 (.slice sa 0 sc) 0 0 0 0 0 0) 50 (0, 0)) := by rw [← hWs]; exact blk_at rfl
                  have HMs := Lib.hid (HM6.out.keep hbs)
                  have HPs := Lib.hid (HP6.out.below hbs)
                  have Kas := Lib.hid (Ka6.out.below hbs)
                  have Krs := Lib.hid (Kr6.out.below hbs)
                  have Drs := Lib.hid (Dr6.out.below hbs)
                  have Dss := Lib.hid hds
                  clear hWs hbs hds HMr HPr Kar Krr Dqr Drr HM6 HP6 Ka6 Kr6 Dr6
                  obtain ⟨mb, mo, va, vc, rfl, hmb, h8, hrV, hvc⟩ := HPs.out.at8 hml
                  rw [HME.out] at h8 hrV hvc
                  obtain ⟨hcutM, hrK⟩ := past_cut hrV hvc Hkk.out
                  have hsm1 : ∀ W', Below wa.heap.size wa W' → Calls Tryz.prog 20 #[.slice aa M.length ac, .slice va M.length vc] W' fun e w' => e = .returned (.bool true) ∧ Below W'.heap.size W' w' := fun W' h => by
                    have := sameRows_any aa ac M va vc M W' ((Kas.out.own.sl0 (fun _ => rfl)).below h) ((hrV.sl0 (fun _ => rfl)).below h) (by have := HMl.out; omega)
                    simpa using this
                  have hsm2 : ∀ W', Below wa.heap.size wa W' → Calls Tryz.prog 20 #[.slice ra kk rc, .slice va kk vc] W' fun e w' => e = .returned (.bool true) ∧ Below W'.heap.size W' w' := fun W' h => by
                    have := sameRows_any ra rc (M.take 256) va vc (M.take 256) W' ((Krs.out.own.sl0 (fun _ => rfl)).below h) ((hrK.sl0 (fun _ => rfl)).below h) (by rw [List.length_take]; omega)
                    rw [Hkk.out] at this
                    simpa using this
                  have kS := PastR.of Drs.out.at_ Dss.out hmb h8
                  have Hsm1 := Lib.hid hsm1
                  have Hsm2 := Lib.hid hsm2
                  have HkS := Lib.hid kS
                  have HcM := Lib.hid hcutM
                  clear hsm1 hsm2 hrV hvc hrK h8 kS hcutM
                  go_cut [199] from 149 to 199 (fun s wx => s = .bool false ∧ Below wa.heap.size wa wx)
                  case first =>
                    as_aux_lemma =>
                      have hmv : m < V1.length := by rw [HPs.out.lv]; exact hml
                      have kS := HkS.out
                      have k0 := kS _ (Below.refl _ _).drew
                      have Hwb0 := Lib.hid (Below.refl wa.heap.size wa).drew
                      refine wp_region_held_drew (S := PastR wa w5.heap.size w6.heap.size mb (mo + m) (.cells (respL 1 0 0 0 (.slice ra kk rc) 0 0 0 0 0 0) 50 (0, 0)) (.cells (respL 5 0 33 0 (.slice sa 0 sc) 0 0 0 0 0 0) 50 (0, 0)) (.slice va M.length vc)) (by kernel_rfl) k0 (fun hHeld => ?_)
                      refine wpAnyH_takeD (i := 0) (oi := _) (d := 149) (v := ?vq0) rfl (by kernel_rfl) (by kernel_rfl) (by kernel_rfl) (by kernel_rfl) (fun _ _ _ h => h) (Or.inl ⟨by kernel_rfl, ?yq0⟩) (by assumption) ?rq0
                      case yq0 =>
                        intro w' hSw
                        try dsimp only at hSw
                        go_simp
                        try with_reducible rfl
                      try simp only [Act.put, List.setIfInBounds_toArray, List.set_cons_zero, List.set_cons_succ]
                      refine wpAnyH_takeD (i := 1) (oi := _) (d := 150) (v := ?vq1) rfl (by kernel_rfl) (by kernel_rfl) (by kernel_rfl) (by kernel_rfl) (fun _ _ _ h => h) (Or.inl ⟨by kernel_rfl, ?yq1⟩) (by assumption) ?rq1
                      case yq1 =>
                        intro w' hSw
                        try dsimp only at hSw
                        go_simp
                        try with_reducible rfl
                      try simp only [Act.put, List.setIfInBounds_toArray, List.set_cons_zero, List.set_cons_succ]
                      refine wpAnyH_takeD (i := 2) (oi := _) (d := 151) (v := ?vq2) rfl (by kernel_rfl) (by kernel_rfl) (by kernel_rfl) (by kernel_rfl) (fun _ _ _ h => h) (Or.inl ⟨by kernel_rfl, ?yq2⟩) (by assumption) ?rq2
                      case yq2 =>
                        intro w' hSw
                        try dsimp only at hSw
                        go_simp
                        try with_reducible rfl
                      try simp only [Act.put, List.setIfInBounds_toArray, List.set_cons_zero, List.set_cons_succ]
                      refine wpAnyH_takeD (i := 3) (oi := _) (d := 152) (v := ?vq3) rfl (by kernel_rfl) (by kernel_rfl) (by kernel_rfl) (by kernel_rfl) (fun _ _ _ h => h) (Or.inl ⟨by kernel_rfl, ?yq3⟩) (by assumption) ?rq3
                      case yq3 =>
                        intro w' hSw
                        try dsimp only at hSw
                        go_simp
                        try with_reducible rfl
                      try simp only [Act.put, List.setIfInBounds_toArray, List.set_cons_zero, List.set_cons_succ]
                      refine wpAnyH_takeD (i := 4) (oi := _) (d := 153) (v := ?vq4) rfl (by kernel_rfl) (by kernel_rfl) (by kernel_rfl) (by kernel_rfl) (fun _ _ _ h => h) (Or.inl ⟨by kernel_rfl, ?yq4⟩) (by assumption) ?rq4
                      case yq4 =>
                        intro w' hSw
                        try dsimp only at hSw
                        go_simp
                        try with_reducible rfl
                      try simp only [Act.put, List.setIfInBounds_toArray, List.set_cons_zero, List.set_cons_succ]
                      refine wpAnyH_takeD (i := 5) (oi := _) (d := 154) (v := ?vq5) rfl (by kernel_rfl) (by kernel_rfl) (by kernel_rfl) (by kernel_rfl) (fun _ _ _ h => h) (Or.inl ⟨by kernel_rfl, ?yq5⟩) (by assumption) ?rq5
                      case yq5 =>
                        intro w' hSw
                        try dsimp only at hSw
                        go_simp
                        try with_reducible rfl
                      try simp only [Act.put, List.setIfInBounds_toArray, List.set_cons_zero, List.set_cons_succ]
                      refine wpAnyH_takeD (i := 6) (oi := _) (d := 155) (v := ?vq6) rfl (by kernel_rfl) (by kernel_rfl) (by kernel_rfl) (by kernel_rfl) (fun _ _ _ h => h) (Or.inl ⟨by kernel_rfl, ?yq6⟩) (by assumption) ?rq6
                      case yq6 =>
                        intro w' hSw
                        try dsimp only at hSw
                        go_simp
                        try with_reducible rfl
                      try simp only [Act.put, List.setIfInBounds_toArray, List.set_cons_zero, List.set_cons_succ]
                      refine wpAnyH_takeD (i := 7) (oi := _) (d := 156) (v := ?vq7) rfl (by kernel_rfl) (by kernel_rfl) (by kernel_rfl) (by kernel_rfl) (fun _ _ _ h => h) (Or.inl ⟨by kernel_rfl, ?yq7⟩) (by assumption) ?rq7
                      case yq7 =>
                        intro w' hSw
                        try dsimp only at hSw
                        go_simp
                        try with_reducible rfl
                      try simp only [Act.put, List.setIfInBounds_toArray, List.set_cons_zero, List.set_cons_succ]
                      refine wpAnyH_takeD (i := 8) (oi := _) (d := 157) (v := ?vq8) rfl (by kernel_rfl) (by kernel_rfl) (by kernel_rfl) (by kernel_rfl) (fun _ _ _ h => h) (Or.inl ⟨by kernel_rfl, ?yq8⟩) (by assumption) ?rq8
                      case yq8 =>
                        intro w' hSw
                        try dsimp only at hSw
                        go_simp
                        try with_reducible rfl
                      try simp only [Act.put, List.setIfInBounds_toArray, List.set_cons_zero, List.set_cons_succ]
                      refine wpAnyH_takeD (i := 9) (oi := _) (d := 158) (v := ?vq9) rfl (by kernel_rfl) (by kernel_rfl) (by kernel_rfl) (by kernel_rfl) (fun _ _ _ h => h) (Or.inl ⟨by kernel_rfl, ?yq9⟩) (by assumption) ?rq9
                      case yq9 =>
                        intro w' hSw
                        try dsimp only at hSw
                        go_simp
                        try with_reducible rfl
                      try simp only [Act.put, List.setIfInBounds_toArray, List.set_cons_zero, List.set_cons_succ]
                      refine wpAnyH_takeD (i := 10) (oi := _) (d := 159) (v := ?vq10) rfl (by kernel_rfl) (by kernel_rfl) (by kernel_rfl) (by kernel_rfl) (fun _ _ _ h => h) (Or.inl ⟨by kernel_rfl, ?yq10⟩) (by assumption) ?rq10
                      case yq10 =>
                        intro w' hSw
                        try dsimp only at hSw
                        go_simp
                        try with_reducible rfl
                      try simp only [Act.put, List.setIfInBounds_toArray, List.set_cons_zero, List.set_cons_succ]
                      refine wpAnyH_takeD (i := 11) (oi := _) (d := 160) (v := ?vq11) rfl (by kernel_rfl) (by kernel_rfl) (by kernel_rfl) (by kernel_rfl) (fun _ _ _ h => h) (Or.inl ⟨by kernel_rfl, ?yq11⟩) (by assumption) ?rq11
                      case yq11 =>
                        intro w' hSw
                        try dsimp only at hSw
                        go_simp
                        try with_reducible rfl
                      try simp only [Act.put, List.setIfInBounds_toArray, List.set_cons_zero, List.set_cons_succ]
                      refine wpAnyH_takeD (i := 12) (oi := _) (d := 161) (v := ?vq12) rfl (by kernel_rfl) (by kernel_rfl) (by kernel_rfl) (by kernel_rfl) (fun _ _ _ h => h) (Or.inl ⟨by kernel_rfl, ?yq12⟩) (by assumption) ?rq12
                      case yq12 =>
                        intro w' hSw
                        try dsimp only at hSw
                        go_simp
                        try with_reducible rfl
                      try simp only [Act.put, List.setIfInBounds_toArray, List.set_cons_zero, List.set_cons_succ]
                      refine wpAnyH_takeD (i := 13) (oi := _) (d := 162) (v := ?vq13) rfl (by kernel_rfl) (by kernel_rfl) (by kernel_rfl) (by kernel_rfl) (fun _ _ _ h => h) (Or.inl ⟨by kernel_rfl, ?yq13⟩) (by assumption) ?rq13
                      case yq13 =>
                        intro w' hSw
                        try dsimp only at hSw
                        go_simp
                        try with_reducible rfl
                      try simp only [Act.put, List.setIfInBounds_toArray, List.set_cons_zero, List.set_cons_succ]
                      refine wpAnyH_takeD (i := 14) (oi := _) (d := 163) (v := ?vq14) rfl (by kernel_rfl) (by kernel_rfl) (by kernel_rfl) (by kernel_rfl) (fun _ _ _ h => h) (Or.inl ⟨by kernel_rfl, ?yq14⟩) (by assumption) ?rq14
                      case yq14 =>
                        intro w' hSw
                        try dsimp only at hSw
                        go_simp
                        try with_reducible rfl
                      try simp only [Act.put, List.setIfInBounds_toArray, List.set_cons_zero, List.set_cons_succ]
                      refine wpAnyH_takeD (i := 15) (oi := _) (d := 164) (v := ?vq15) rfl (by kernel_rfl) (by kernel_rfl) (by kernel_rfl) (by kernel_rfl) (fun _ _ _ h => h) (Or.inl ⟨by kernel_rfl, ?yq15⟩) (by assumption) ?rq15
                      case yq15 =>
                        intro w' hSw
                        obtain ⟨sB, sR, sS, sV⟩ := hSw
                        skip
                        go_simp
                        try with_reducible rfl
                      try simp only [Act.put, List.setIfInBounds_toArray, List.set_cons_zero, List.set_cons_succ]
                      refine wpAnyH_ready (rs := [16]) (by kernel_rfl) (by simp) ?_
                      refine AllReadyH.cons (o := _) rfl (fun K hK => ?_) AllReadyH.nil
                      go_simp
                      go_at_call 20
                      refine (Hsm1.out _ Hwb0.out).mono ?_
                      rintro e wd ⟨rfl, hbwd⟩
                      have hb0 : Below wa.heap.size wa wd := Hwb0.out.trans (hbwd.mono Hwb0.out.size)
                      have kwd := kS wd hb0
                      have Hwd := Lib.hid hb0
                      clear hbwd hb0
                      refine hK.out _ _ kwd (fun _ => ?_)
                      clear hK K
                      try simp only [Act.put, List.setIfInBounds_toArray, List.set_cons_zero, List.set_cons_succ]
                      refine wpAnyH_takeD (i := 17) (oi := _) (d := 166) (v := ?vq17) rfl (by kernel_rfl) (by kernel_rfl) (by kernel_rfl) (by kernel_rfl) (fun _ _ _ h => h) (Or.inl ⟨by kernel_rfl, ?yq17⟩) (by assumption) ?rq17
                      case yq17 =>
                        intro w' hSw
                        try dsimp only at hSw
                        go_simp
                        try with_reducible rfl
                      try simp only [Act.put, List.setIfInBounds_toArray, List.set_cons_zero, List.set_cons_succ]
                      refine wpAnyH_takeD (i := 18) (oi := _) (d := 167) (v := ?vq18) rfl (by kernel_rfl) (by kernel_rfl) (by kernel_rfl) (by kernel_rfl) (fun _ _ _ h => h) (Or.inl ⟨by kernel_rfl, ?yq18⟩) (by assumption) ?rq18
                      case yq18 =>
                        intro w' hSw
                        try dsimp only at hSw
                        go_simp
                        try with_reducible rfl
                      try simp only [Act.put, List.setIfInBounds_toArray, List.set_cons_zero, List.set_cons_succ]
                      refine wpAnyH_takeD (i := 19) (oi := _) (d := 168) (v := ?vq19) rfl (by kernel_rfl) (by kernel_rfl) (by kernel_rfl) (by kernel_rfl) (fun _ _ _ h => h) (Or.inl ⟨by kernel_rfl, ?yq19⟩) (by assumption) ?rq19
                      case yq19 =>
                        intro w' hSw
                        try dsimp only at hSw
                        go_simp
                        try with_reducible rfl
                      try simp only [Act.put, List.setIfInBounds_toArray, List.set_cons_zero, List.set_cons_succ]
                      refine wpAnyH_takeD (i := 20) (oi := _) (d := 169) (v := ?vq20) rfl (by kernel_rfl) (by kernel_rfl) (by kernel_rfl) (by kernel_rfl) (fun _ _ _ h => h) (Or.inl ⟨by kernel_rfl, ?yq20⟩) (by assumption) ?rq20
                      case yq20 =>
                        intro w' hSw
                        try dsimp only at hSw
                        go_simp
                        try with_reducible rfl
                      try simp only [Act.put, List.setIfInBounds_toArray, List.set_cons_zero, List.set_cons_succ]
                      refine wpAnyH_takeD (i := 21) (oi := _) (d := 170) (v := ?vq21) rfl (by kernel_rfl) (by kernel_rfl) (by kernel_rfl) (by kernel_rfl) (fun _ _ _ h => h) (Or.inl ⟨by kernel_rfl, ?yq21⟩) (by assumption) ?rq21
                      case yq21 =>
                        intro w' hSw
                        obtain ⟨sB, sR, sS, sV⟩ := hSw
                        have x0 := cell_blk sR 0
                        simp at x0
                        go_simp
                        try with_reducible rfl
                      try simp only [Act.put, List.setIfInBounds_toArray, List.set_cons_zero, List.set_cons_succ]
                      refine wpAnyH_takeD (i := 22) (oi := _) (d := 171) (v := ?vq22) rfl (by kernel_rfl) (by kernel_rfl) (by kernel_rfl) (by kernel_rfl) (fun _ _ _ h => h) (Or.inl ⟨by kernel_rfl, ?yq22⟩) (by assumption) ?rq22
                      case yq22 =>
                        intro w' hSw
                        try dsimp only at hSw
                        go_simp
                        try with_reducible rfl
                      try simp only [Act.put, List.setIfInBounds_toArray, List.set_cons_zero, List.set_cons_succ]
                      refine wpAnyH_takeD (i := 23) (oi := _) (d := 172) (v := ?vq23) rfl (by kernel_rfl) (by kernel_rfl) (by kernel_rfl) (by kernel_rfl) (fun _ _ _ h => h) (Or.inl ⟨by kernel_rfl, ?yq23⟩) (by assumption) ?rq23
                      case yq23 =>
                        intro w' hSw
                        try dsimp only at hSw
                        go_simp
                        try with_reducible rfl
                      try simp only [Act.put, List.setIfInBounds_toArray, List.set_cons_zero, List.set_cons_succ]
                      refine wpAnyH_takeD (i := 24) (oi := _) (d := 173) (v := ?vq24) rfl (by kernel_rfl) (by kernel_rfl) (by kernel_rfl) (by kernel_rfl) (fun _ _ _ h => h) (Or.inl ⟨by kernel_rfl, ?yq24⟩) (by assumption) ?rq24
                      case yq24 =>
                        intro w' hSw
                        try dsimp only at hSw
                        go_simp
                        try with_reducible rfl
                      try simp only [Act.put, List.setIfInBounds_toArray, List.set_cons_zero, List.set_cons_succ]
                      refine wpAnyH_takeD (i := 25) (oi := _) (d := 174) (v := ?vq25) rfl (by kernel_rfl) (by kernel_rfl) (by kernel_rfl) (by kernel_rfl) (fun _ _ _ h => h) (Or.inl ⟨by kernel_rfl, ?yq25⟩) (by assumption) ?rq25
                      case yq25 =>
                        intro w' hSw
                        try dsimp only at hSw
                        go_simp
                        try with_reducible rfl
                      try simp only [Act.put, List.setIfInBounds_toArray, List.set_cons_zero, List.set_cons_succ]
                      refine wpAnyH_takeD (i := 26) (oi := _) (d := 175) (v := ?vq26) rfl (by kernel_rfl) (by kernel_rfl) (by kernel_rfl) (by kernel_rfl) (fun _ _ _ h => h) (Or.inl ⟨by kernel_rfl, ?yq26⟩) (by assumption) ?rq26
                      case yq26 =>
                        intro w' hSw
                        obtain ⟨sB, sR, sS, sV⟩ := hSw
                        have x4 := cell_blk sR 4
                        simp at x4
                        go_simp
                        try with_reducible rfl
                      try simp only [Act.put, List.setIfInBounds_toArray, List.set_cons_zero, List.set_cons_succ]
                      refine wpAnyH_takeD (i := 27) (oi := _) (d := 176) (v := ?vq27) rfl (by kernel_rfl) (by kernel_rfl) (by kernel_rfl) (by kernel_rfl) (fun _ _ _ h => h) (Or.inl ⟨by kernel_rfl, ?yq27⟩) (by assumption) ?rq27
                      case yq27 =>
                        intro w' hSw
                        try dsimp only at hSw
                        go_simp
                        try with_reducible rfl
                      try simp only [Act.put, List.setIfInBounds_toArray, List.set_cons_zero, List.set_cons_succ]
                      refine wpAnyH_takeD (i := 28) (oi := _) (d := 177) (v := ?vq28) rfl (by kernel_rfl) (by kernel_rfl) (by kernel_rfl) (by kernel_rfl) (fun _ _ _ h => h) (Or.inl ⟨by kernel_rfl, ?yq28⟩) (by assumption) ?rq28
                      case yq28 =>
                        intro w' hSw
                        try dsimp only at hSw
                        go_simp
                        try with_reducible rfl
                      try simp only [Act.put, List.setIfInBounds_toArray, List.set_cons_zero, List.set_cons_succ]
                      refine wpAnyH_takeD (i := 29) (oi := _) (d := 178) (v := ?vq29) rfl (by kernel_rfl) (by kernel_rfl) (by kernel_rfl) (by kernel_rfl) (fun _ _ _ h => h) (Or.inl ⟨by kernel_rfl, ?yq29⟩) (by assumption) ?rq29
                      case yq29 =>
                        intro w' hSw
                        try dsimp only at hSw
                        go_simp
                        try with_reducible rfl
                      try simp only [Act.put, List.setIfInBounds_toArray, List.set_cons_zero, List.set_cons_succ]
                      refine wpAnyH_takeD (i := 30) (oi := _) (d := 179) (v := ?vq30) rfl (by kernel_rfl) (by kernel_rfl) (by kernel_rfl) (by kernel_rfl) (fun _ _ _ h => h) (Or.inl ⟨by kernel_rfl, ?yq30⟩) (by assumption) ?rq30
                      case yq30 =>
                        intro w' hSw
                        obtain ⟨sB, sR, sS, sV⟩ := hSw
                        skip
                        go_simp
                        try with_reducible rfl
                      try simp only [Act.put, List.setIfInBounds_toArray, List.set_cons_zero, List.set_cons_succ]
                      refine wpAnyH_takeD (i := 31) (oi := _) (d := 180) (v := ?vq31) rfl (by kernel_rfl) (by kernel_rfl) (by kernel_rfl) (by kernel_rfl) (fun _ _ _ h => h) (Or.inl ⟨by kernel_rfl, ?yq31⟩) (by assumption) ?rq31
                      case yq31 =>
                        intro w' hSw
                        try dsimp only at hSw
                        go_simp
                        try with_reducible rfl
                      try simp only [Act.put, List.setIfInBounds_toArray, List.set_cons_zero, List.set_cons_succ]
                      refine wpAnyH_takeD (i := 32) (oi := _) (d := 181) (v := ?vq32) rfl (by kernel_rfl) (by kernel_rfl) (by kernel_rfl) (by kernel_rfl) (fun _ _ _ h => h) (Or.inl ⟨by kernel_rfl, ?yq32⟩) (by assumption) ?rq32
                      case yq32 =>
                        intro w' hSw
                        try dsimp only at hSw
                        go_simp
                        try with_reducible rfl
                      try simp only [Act.put, List.setIfInBounds_toArray, List.set_cons_zero, List.set_cons_succ]
                      refine wpAnyH_takeD (i := 33) (oi := _) (d := 182) (v := ?vq33) rfl (by kernel_rfl) (by kernel_rfl) (by kernel_rfl) (by kernel_rfl) (fun _ _ _ h => h) (Or.inl ⟨by kernel_rfl, ?yq33⟩) (by assumption) ?rq33
                      case yq33 =>
                        intro w' hSw
                        try dsimp only at hSw
                        go_simp
                        try with_reducible rfl
                      try simp only [Act.put, List.setIfInBounds_toArray, List.set_cons_zero, List.set_cons_succ]
                      refine wpAnyH_takeD (i := 34) (oi := _) (d := 183) (v := ?vq34) rfl (by kernel_rfl) (by kernel_rfl) (by kernel_rfl) (by kernel_rfl) (fun _ _ _ h => h) (Or.inl ⟨by kernel_rfl, ?yq34⟩) (by assumption) ?rq34
                      case yq34 =>
                        intro w' hSw
                        obtain ⟨sB, sR, sS, sV⟩ := hSw
                        skip
                        go_simp
                        try with_reducible rfl
                      try simp only [Act.put, List.setIfInBounds_toArray, List.set_cons_zero, List.set_cons_succ]
                      refine wpAnyH_takeD (i := 35) (oi := _) (d := 184) (v := ?vq35) rfl (by kernel_rfl) (by kernel_rfl) (by kernel_rfl) (by kernel_rfl) (fun _ _ _ h => h) (Or.inl ⟨by kernel_rfl, ?yq35⟩) (by assumption) ?rq35
                      case yq35 =>
                        intro w' hSw
                        try dsimp only at hSw
                        go_simp
                        try with_reducible rfl
                      try simp only [Act.put, List.setIfInBounds_toArray, List.set_cons_zero, List.set_cons_succ]
                      refine wpAnyH_takeD (i := 36) (oi := _) (d := 185) (v := ?vq36) rfl (by kernel_rfl) (by kernel_rfl) (by kernel_rfl) (by kernel_rfl) (fun _ _ _ h => h) (Or.inl ⟨by kernel_rfl, ?yq36⟩) (by assumption) ?rq36
                      case yq36 =>
                        intro w' hSw
                        try dsimp only at hSw
                        go_simp
                        try with_reducible rfl
                      try simp only [Act.put, List.setIfInBounds_toArray, List.set_cons_zero, List.set_cons_succ]
                      refine wpAnyH_takeD (i := 37) (oi := _) (d := 186) (v := ?vq37) rfl (by kernel_rfl) (by kernel_rfl) (by kernel_rfl) (by kernel_rfl) (fun _ _ _ h => h) (Or.inl ⟨by kernel_rfl, ?yq37⟩) (by assumption) ?rq37
                      case yq37 =>
                        intro w' hSw
                        obtain ⟨sB, sR, sS, sV⟩ := hSw
                        have hcM := HcM.out
                        go_simp
                        try with_reducible rfl
                      try simp only [Act.put, List.setIfInBounds_toArray, List.set_cons_zero, List.set_cons_succ]
                      refine wpAnyH_ready (rs := [38]) (by kernel_rfl) (by simp) ?_
                      refine AllReadyH.cons (o := _) rfl (fun K hK => ?_) AllReadyH.nil
                      go_simp
                      go_at_call 20
                      refine (Hsm2.out _ Hwd.out).mono ?_
                      rintro e we ⟨rfl, hbwe⟩
                      have hb0 : Below wa.heap.size wa we := Hwd.out.trans (hbwe.mono Hwd.out.size)
                      have kwe := kS we hb0
                      have Hwe := Lib.hid hb0
                      clear hbwe hb0
                      refine hK.out _ _ kwe (fun _ => ?_)
                      clear hK K
                      try simp only [Act.put, List.setIfInBounds_toArray, List.set_cons_zero, List.set_cons_succ]
                      refine wpAnyH_takeD (i := 39) (oi := _) (d := 188) (v := ?vq39) rfl (by kernel_rfl) (by kernel_rfl) (by kernel_rfl) (by kernel_rfl) (fun _ _ _ h => h) (Or.inl ⟨by kernel_rfl, ?yq39⟩) (by assumption) ?rq39
                      case yq39 =>
                        intro w' hSw
                        try dsimp only at hSw
                        go_simp
                        try with_reducible rfl
                      try simp only [Act.put, List.setIfInBounds_toArray, List.set_cons_zero, List.set_cons_succ]
                      refine wpAnyH_takeD (i := 40) (oi := _) (d := 189) (v := ?vq40) rfl (by kernel_rfl) (by kernel_rfl) (by kernel_rfl) (by kernel_rfl) (fun _ _ _ h => h) (Or.inl ⟨by kernel_rfl, ?yq40⟩) (by assumption) ?rq40
                      case yq40 =>
                        intro w' hSw
                        try dsimp only at hSw
                        go_simp
                        try with_reducible rfl
                      try simp only [Act.put, List.setIfInBounds_toArray, List.set_cons_zero, List.set_cons_succ]
                      refine wpAnyH_takeD (i := 41) (oi := _) (d := 190) (v := ?vq41) rfl (by kernel_rfl) (by kernel_rfl) (by kernel_rfl) (by kernel_rfl) (fun _ _ _ h => h) (Or.inl ⟨by kernel_rfl, ?yq41⟩) (by assumption) ?rq41
                      case yq41 =>
                        intro w' hSw
                        try dsimp only at hSw
                        go_simp
                        try with_reducible rfl
                      try simp only [Act.put, List.setIfInBounds_toArray, List.set_cons_zero, List.set_cons_succ]
                      refine wpAnyH_takeD (i := 42) (oi := _) (d := 191) (v := ?vq42) rfl (by kernel_rfl) (by kernel_rfl) (by kernel_rfl) (by kernel_rfl) (fun _ _ _ h => h) (Or.inl ⟨by kernel_rfl, ?yq42⟩) (by assumption) ?rq42
                      case yq42 =>
                        intro w' hSw
                        try dsimp only at hSw
                        go_simp
                        try with_reducible rfl
                      try simp only [Act.put, List.setIfInBounds_toArray, List.set_cons_zero, List.set_cons_succ]
                      refine wpAnyH_takeD (i := 43) (oi := _) (d := 192) (v := ?vq43) rfl (by kernel_rfl) (by kernel_rfl) (by kernel_rfl) (by kernel_rfl) (fun _ _ _ h => h) (Or.inl ⟨by kernel_rfl, ?yq43⟩) (by assumption) ?rq43
                      case yq43 =>
                        intro w' hSw
                        obtain ⟨sB, sR, sS, sV⟩ := hSw
                        have x0 := cell_blk sS 0
                        simp at x0
                        go_simp
                        try with_reducible rfl
                      try simp only [Act.put, List.setIfInBounds_toArray, List.set_cons_zero, List.set_cons_succ]
                      refine wpAnyH_takeD (i := 44) (oi := _) (d := 193) (v := ?vq44) rfl (by kernel_rfl) (by kernel_rfl) (by kernel_rfl) (by kernel_rfl) (fun _ _ _ h => h) (Or.inl ⟨by kernel_rfl, ?yq44⟩) (by assumption) ?rq44
                      case yq44 =>
                        intro w' hSw
                        try dsimp only at hSw
                        go_simp
                        try with_reducible rfl
                      try simp only [Act.put, List.setIfInBounds_toArray, List.set_cons_zero, List.set_cons_succ]
                      refine wpAnyH_takeD (i := 45) (oi := _) (d := 194) (v := ?vq45) rfl (by kernel_rfl) (by kernel_rfl) (by kernel_rfl) (by kernel_rfl) (fun _ _ _ h => h) (Or.inl ⟨by kernel_rfl, ?yq45⟩) (by assumption) ?rq45
                      case yq45 =>
                        intro w' hSw
                        try dsimp only at hSw
                        go_simp
                        try with_reducible rfl
                      try simp only [Act.put, List.setIfInBounds_toArray, List.set_cons_zero, List.set_cons_succ]
                      refine wpAnyH_takeD (i := 46) (oi := _) (d := 195) (v := ?vq46) rfl (by kernel_rfl) (by kernel_rfl) (by kernel_rfl) (by kernel_rfl) (fun _ _ _ h => h) (Or.inl ⟨by kernel_rfl, ?yq46⟩) (by assumption) ?rq46
                      case yq46 =>
                        intro w' hSw
                        try dsimp only at hSw
                        go_simp
                        try with_reducible rfl
                      try simp only [Act.put, List.setIfInBounds_toArray, List.set_cons_zero, List.set_cons_succ]
                      refine wpAnyH_takeD (i := 47) (oi := _) (d := 196) (v := ?vq47) rfl (by kernel_rfl) (by kernel_rfl) (by kernel_rfl) (by kernel_rfl) (fun _ _ _ h => h) (Or.inl ⟨by kernel_rfl, ?yq47⟩) (by assumption) ?rq47
                      case yq47 =>
                        intro w' hSw
                        try dsimp only at hSw
                        go_simp
                        try with_reducible rfl
                      try simp only [Act.put, List.setIfInBounds_toArray, List.set_cons_zero, List.set_cons_succ]
                      refine wpAnyH_takeD (i := 48) (oi := _) (d := 197) (v := ?vq48) rfl (by kernel_rfl) (by kernel_rfl) (by kernel_rfl) (by kernel_rfl) (fun _ _ _ h => h) (Or.inl ⟨by kernel_rfl, ?yq48⟩) (by assumption) ?rq48
                      case yq48 =>
                        intro w' hSw
                        obtain ⟨sB, sR, sS, sV⟩ := hSw
                        have x2 := cell_blk sS 2
                        simp at x2
                        go_simp
                        try with_reducible rfl
                      try simp only [Act.put, List.setIfInBounds_toArray, List.set_cons_zero, List.set_cons_succ]
                      refine wpAnyH_takeD (i := 49) (oi := _) (d := 198) (v := ?vq49) rfl (by kernel_rfl) (by kernel_rfl) (by kernel_rfl) (by kernel_rfl) (fun _ _ _ h => h) (Or.inl ⟨by kernel_rfl, ?yq49⟩) (by assumption) ?rq49
                      case yq49 =>
                        intro w' hSw
                        try dsimp only at hSw
                        go_simp
                        try with_reducible rfl
                      try simp only [Act.put, List.setIfInBounds_toArray, List.set_cons_zero, List.set_cons_succ]
                      refine wpAnyH_takeD (i := 50) (oi := _) (d := 199) (v := ?vq50) rfl (by kernel_rfl) (by kernel_rfl) (by kernel_rfl) (by kernel_rfl) (fun _ _ _ h => h) (Or.inl ⟨by kernel_rfl, ?yq50⟩) (by assumption) ?rq50
                      case yq50 =>
                        intro w' hSw
                        try dsimp only at hSw
                        go_simp
                        try with_reducible rfl
                      try simp only [Act.put, List.setIfInBounds_toArray, List.set_cons_zero, List.set_cons_succ]
                      refine wpAnyH_done (by kernel_rfl) ?_ _
                      go_wp2_with fail
                      go_meet
                      exact ⟨rfl, Hwe.out⟩
                  case rest =>
                    obtain ⟨rfl, hbx⟩ := hcut
                    have HMx := Lib.hid (HMs.out.keep hbx)
                    have HPx := Lib.hid (HPs.out.below hbx)
                    clear hbx
                    go_wp2_with fail
                    go_roundg (gk - 1)
                    case measure => have := Hm.out; omega
                    case rel => exact ⟨m + 1, B6, by have := Hm.out; omega, by go_num, HMx.out, HPx.out⟩
                · have hmi : ¬ (m : Int) < (es1.length : Int) := by omega
                  go_wp2_with fail
                  go_roundg (l.length - (j + 1))
                  case measure => have := Hj.out; omega
                  case rel => exact ⟨j + 1, n2, T2, Bm, es1, Ms1, V1, by have := Hj.out; omega, by go_num, by omega, by omega, by omega, HMm.out, HI2.out, HPm.out⟩
        · have hxx : ¬ ((j : Int) < (l.length : Int)) ∨ ((j : Int) < (l.length : Int) ∧ ¬ ((j : Int) < 60)) := by omega
          clear hlt
          rcases hxx with h1 | ⟨h1, h2⟩
          · go_wp2_with fail
            go_meet
            exact ⟨n, T, B, es, Ms, V, by omega, by omega, HM.out, HI.out, HP.out⟩
          · go_wp2_with fail
            go_meet
            exact ⟨n, T, B, es, Ms, V, by omega, by omega, HM.out, HI.out, HP.out⟩
    case rest =>
      obtain ⟨n, T, B, es, Ms, V, hn, hel, hM, hI, hP⟩ := hcut
      obtain ⟨a7, c7, rfl, _⟩ := hP.oe.sl fun _ => rfl
      obtain ⟨a8, c8, rfl, _⟩ := hP.om.sl fun _ => rfl
      have hlv := hM.leave (by omega) 64
      rw [hI.held hM.md.inv] at hlv
      have Hold : Hid (∀ x ∈ es, 1 ≤ x ∧ x ≤ 1099511627776) := Lib.hid fun x hx => by have h1 := hI.old hM.md.inv x hx; have h2 := hM.md.inv.now.2; omega
      have HP := Lib.hid hP
      clear hM hI hP
      go_wp2_with fail
      refine hlv.mono ?_
      rintro e w4 ⟨rfl, hM4, hT4⟩
      have HM4 := Lib.hid hM4
      have HP4 := Lib.hid (HP.out.turn hT4)
      clear hlv hM4 hT4 HP
      go_wp2_with fail
      go_loopg [23] es.length (fun g i wq => ∃ (m nn : Nat) (B' : MB), m + g = es.length ∧ i = .int .i64 m ∧ nn ≤ 130 + m ∧ Mine W1 wq mp B' (T.leave 64) nn ∧ PastW W1 wq B' es Ms (.slice a7 es.length c7) (.slice a8 V.length c8) V)
      case atStart => exact ⟨0, n, B, by omega, rfl, by omega, HM4.out, HP4.out⟩
      case round =>
        obtain ⟨m, nn, Bm, hm, rfl, hnn, hMm, hPm⟩ := hrel
        have Hm := Lib.hid hm
        have HMm := Lib.hid hMm
        have HPm := Lib.hid hPm
        clear hm hMm hPm
        by_cases hlt2 : m < es.length
        · have hmi : (m : Int) < (es.length : Int) := by omega
          obtain ⟨ob, oo, rfl, hob, h7⟩ := HPm.out.at7 hlt2
          have hx := Hold.out _ (List.getElem_mem hlt2)
          have hg := past_gone HMm.out (by omega) hx.1 hx.2 (leave_none T _)
          generalize es[m] = x at *
          clear hx
          go_upto_region 37 with (first | (go_at_call 18; refine hg.mono ?_; rintro e w5 ⟨sa, sc, B5, rfl, hM5, hT5⟩; have HM5 := Lib.hid hM5; have HP5 := Lib.hid (HPm.out.turn hT5); clear hg hM5 hT5) | (refine wpList_buildP (t := 30) rfl _ rfl (relA x) (by kernel_rfl) ?_))
          generalize hWs : World.alloc w5 _ = wa
          have hbs : Below w5.heap.size w5 wa := by rw [← hWs]; exact (Below.refl _ _).alloc (Nat.le_refl _) _
          have hds : wa.heap[w5.heap.size]? = some (.cells (respL 5 0 33 0 (.slice sa 0 sc) 0 0 0 0 0 0) 50 (0, 0)) := by rw [← hWs]; exact blk_at rfl
          have y0 := cell_blk hds 0
          have y2 := cell_blk hds 2
          simp at y0 y2
          have HMs := Lib.hid (HM5.out.keep hbs)
          have HPs := Lib.hid (HP5.out.below hbs)
          clear hWs hbs hds HM5 HP5 h7
          go_wp2_with fail
          go_roundg (gk - 1)
          case measure => have := Hm.out; omega
          case rel => exact ⟨m + 1, nn + 1, B5, by have := Hm.out; omega, by go_num, by omega, HMs.out, HPs.out⟩
        · have hmi : ¬ (m : Int) < (es.length : Int) := by omega
          have hl2 := HMm.out.leave (by have := Hm.out; omega) 64
          have e0 : ((0 : Nat) : Int) = 0 := rfl
          rw [held_none (fun e => leave_none T e), e0] at hl2
          clear e0
          go_wp2_with fail
          refine hl2.mono ?_
          rintro e w6 ⟨rfl, hM6, hT6⟩
          have HM6 := Lib.hid hM6
          clear hl2 hM6 hT6
          go_wp2_with fail
          refine (hhead _).mono ?_
          rintro e w9 ⟨rfl, hb9⟩
          have HM9 := Lib.hid (HM6.out.keep hb9)
          clear HM6 hb9
          go_wp2_with fail
          go_ret
          exact ⟨rfl, Hb1.out.trans (HM9.out.below.mono Hb1.out.size)⟩
/-- As the law's arguments lie. -/
theorem past_top (c : Cfg) (A : Option Addr) (cap : Nat) (A1 : Option Addr) (cap1 : Nat) (l : List Opx) (W : World)
    (hs : Sl 3 viewL W A c.vs) (h1 : c.vs.length ≤ cap) (h2 : cap ≤ maxLen) (hs1 : Sl 25 opL W A1 l) (hok : ∀ o ∈ l, OpOk W o) (h3 : l.length ≤ cap1) (h4 : cap1 ≤ maxLen) :
    Calls Tryz.prog 4 #[cfgV c A cap, .slice A1 l.length cap1] W fun e W' => e = .returned (.bool true) ∧ Below W.heap.size W W' := by
  have hm : maxLen ≤ 9223372036854775807 := by decide
  exact past_any c A cap A1 cap1 l W hs (by omega) hs1 hok (by omega)
end Go.Proofs.YtaicecnfodhlcaaGreat
/- ModelPast: the Go function 'spate/spatelaw19.ModelPast' returns true and its arguments read afterwards as before, in every world. Conditions: none. -/
set_option linter.unusedVariables false
namespace Go.Proofs.YtaicecnfodhlcaaGreat.modelPast
open Go.ChangeShapes Go.WideShapes Go.ChangeAt Go.RowKit Go.ChangeMaps

theorem own : ownKnob Tryz.prog.godebug = none := by kernel_rfl

set_option maxRecDepth 100000 in
theorem contract (H : Type) (enc : TypeId × Value → H) (W : World) (base : Nat) (args : Array Value) (ds gs : List (DataW H)) (before : List MemPlace)
    (hval : ∀ (j : Nat) t v, Tryz.f4.params[j]? = some t → args[j]? = some v → Value.okWide Tryz.prog W .any base t v)
    (hW : DataW.Whole enc Tryz.prog Tryz.f4.params.toList Rows.modelPastSpec.vars false W args.toList ds gs before) :
    Calls Tryz.prog 4 args W fun e W' => ∃ v, e = .returned v ∧ Rows.modelPastSpec.post enc Tryz.prog Tryz.f4 false true false false W args v W' := by
  have hW' := hW
  obtain ⟨p, q, hA0, hV, rfl, hfz, hnd⟩ := hW
  have hA : DataW.TrodAll enc Tryz.prog W 0 (fun _ => true) true Tryz.f4.params.toList args.toList ds p := hA0
  rw [Tryz.params4] at hA hval
  obtain ⟨v0, vs0, d0, ds0, p0, q0, hargs, rfl, rfl, ⟨n0, h0⟩, r0⟩ := trodAll_cons hA
  obtain ⟨v1, vs1, d1, ds1, p1, q1, rfl, rfl, rfl, ⟨n1, h1⟩, r1⟩ := trodAll_cons r0
  obtain ⟨rfl, rfl, rfl⟩ := trodAll_nil r1
  obtain rfl : args = #[v0, v1] := by
    obtain ⟨l⟩ := args
    exact congrArg Array.mk hargs
  obtain ⟨rfl, rfl⟩ := trodVars_none hV
  obtain ⟨⟨a0⟩, rfl, _⟩ := okWide_struct Tryz.underlying24 (hval 0 24 v0 rfl rfl)
  obtain ⟨c0, A0, cap0, e0, hs0, k0, m0⟩ := cfg_of h0
  have e0 : a0 = _ := e0
  subst e0
  obtain ⟨A1, len1, cap1, rfl⟩ := okWide_slice Tryz.underlying25 (hval 1 25 v1 rfl rfl)
  obtain ⟨A1', cap1', l1, e1, hs1, hok1, k1, m1⟩ := ops_of h1
  cases e1
  refine (past_top c0 A0 cap0 A1 cap1 l1 W hs0 k0 m0 hs1 hok1 k1 m1).mono fun e W' ⟨he, hg⟩ => ?_
  subst he
  exact ⟨_, rfl, post_true hW' rfl rfl rfl (by kernel_rfl) (by kernel_rfl) hg⟩

set_option maxRecDepth 100000 in
theorem lifted (os : Os) (started : os.Started) (H : Type) (enc : TypeId × Value → H) :
    ReturnsInHanded {} Tryz.checked os 4 .any (Rows.modelPastSpec.pre6 enc Tryz.prog Tryz.f4 Rows.modelPastRow.domain false) (Rows.modelPastSpec.post enc Tryz.prog Tryz.f4 false true false false) := by
  refine returnsInHanded_of_change (C := Tryz.checked) own started (by kernel_rfl) Tryz.func4
    (ChangeSpec.witness6 (enc := enc) (C := Tryz.checked) false ⟨#[], #[.agg #[.slice none 0 0, .int .i64 0, .int .i64 0, .int .i64 0, .int .i64 0, .int .i64 0, .int .i64 0, .int .i64 0, .int .i64 0, .int .i64 0, .int .i64 0, .int .i64 0], .slice none 0 0], []⟩ 12 (by kernel_rfl) (by kernel_rfl) (by kernel_rfl) (by kernel_rfl)) ?_
  intro W base args ds gs before hval0 hW hcnd _
  exact contract H enc W base args ds gs before hval0 hW

theorem over : Rows.modelPastRow.holds Tryz.pinned (OpenSpec.ofChange Rows.modelPastSpec) :=
  OpenClaim.holds_of_wide 4 Tryz.f4 rfl rfl rfl rfl rfl rfl rfl ⟨rfl, rfl, rfl, rfl, rfl⟩ rfl rfl rfl rfl rfl (by kernel_rfl) Tryz.func4 (by kernel_rfl)
    (of_decide_eq_true (by kernel_rfl)) (by unfold Func.isWrapper; first | (rw [if_pos (by decide +kernel)]; kernel_rfl) | (rw [if_neg (by decide +kernel)]; exact ⟨rfl, rfl⟩))
    (fun os started H enc _ => lifted os started H enc)

theorem proved : Rows.ModelPastSaid :=
  over
#print axioms proved
end Go.Proofs.YtaicecnfodhlcaaGreat.modelPast
