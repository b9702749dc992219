/- Event: what it does to the state. -/
import Derived.Test.YtaicecnfodhlcaaJ06
import Derived.Deep.CutRange
set_option linter.unusedVariables false
set_option linter.unusedSimpArgs false
namespace Go.Proofs.Ytaicecnfodhlcaa
open Go.RowKit Go.Deep

abbrev keyed (k : ByteArray) (c : Cell) : Cell := ⟨c.v, k, c.s⟩
/-- The marks of a key's operator: the least. -/
def Mst.least (S : Mst) (k : ByteArray) : Int := leastOf (S.ms.getD (oprK k S.cfg.op).toNat [])
/-- The cells that an event is written into. -/
def Mst.openL (S : Mst) (k : ByteArray) (t : Int) : List Cell := (openCells S.cfg.vs t (S.least k)).map (keyed k)
def putZ (a : Ag) (v : Int) : Ag := (putA a v).getD ⟨0, 0, 0, 0⟩
abbrev Mst.putRow (S : Mst) (v : Int) (c : Cell) : Rw := ⟨c, putZ (getA S.L c) v⟩
def Mst.puts (S : Mst) (k : ByteArray) (t v : Int) : List Rw := (S.openL k t).map (S.putRow v)
def Mst.over (S : Mst) (k : ByteArray) (t v : Int) : Bool := (S.openL k t).any fun c => (putA (getA S.L c) v).isNone
def Mst.late (S : Mst) (k : ByteArray) (t : Int) : Bool := isLate S.cfg.vs t (S.least k)
abbrev Mst.taken (S : Mst) (k : ByteArray) (t v : Int) : Mst := { S with cnt := { S.cnt with t := S.cnt.t + 1 }, L := putRows S.L (S.puts k t v) }
abbrev Mst.counts (S : Mst) (c : Cnt) : Mst := { S with cnt := c }
/-- An event: the state behind it, its fate, what is told. -/
def Mst.event (S : Mst) (mk : Bool) (k : ByteArray) (t v : Int) (full : Bool) : Mst × Int × Int :=
  if mk = true then (S, 0, 1)
  else if k.size < 1 ∨ 32 < k.size then (S, 0, 21)
  else if t < -1152921504606846976 ∨ 1152921504606846976 < t then (S, 0, 22)
  else if (S.dueOf (oprK k S.cfg.op)).isSome = true then (S, 0, 53)
  else if (full && (S.late k t || S.over k t v || (S.openL k t).isEmpty)) = true then (S, 0, 51)
  else if S.late k t = true then (S.counts { S.cnt with l := S.cnt.l + 1 }, 2, 0)
  else if S.over k t v = true then (S.counts { S.cnt with o := S.cnt.o + 1 }, 3, 0)
  else if full = true then (S.counts { S.cnt with f := S.cnt.f + 1 }, 4, 0)
  else (S.taken k t v, 1, 0)

theorem starts_nodup {v : View} (hv : v.ok = true) (t : Int) : (v.starts t).Nodup := by
  have h1 := (View.ok_iff v).1 hv
  unfold View.starts
  have h2 : (List.range (v.cnt t)).Nodup := List.nodup_range
  unfold List.Nodup at *
  rw [List.pairwise_map]
  refine h2.imp fun {i j} h e => h ?_
  have h2 : ((v.cnt t : Int) - 1 - i) * v.slide = ((v.cnt t : Int) - 1 - j) * v.slide := by omega
  have h3 := Int.eq_of_mul_eq_mul_right (by omega : v.slide ≠ 0) h2
  omega
theorem openN_nodup {vs : List View} (hv : ∀ v ∈ vs, v.ok = true) (t m : Int) : ∀ n, n ≤ vs.length → (openN vs t m n).Nodup ∧ ∀ c ∈ openN vs t m n, ∃ i, i < n ∧ c.v = (i : Int)
  | 0, _ => by simp [openN]
  | n + 1, hn => by
    obtain ⟨h1, h2⟩ := openN_nodup hv t m n (by omega)
    have hmem : ∀ c ∈ viewCells vs t m n, c.v = (n : Int) := by
      intro c hc
      obtain ⟨s, _, rfl⟩ := List.mem_map.1 hc
      rfl
    rw [openN_succ]
    constructor
    · rw [List.nodup_append]
      refine ⟨h1, ?_, ?_⟩
      · unfold viewCells
        have hg : vs.getD n default = vs[n]'(by omega) := by simp [show n < vs.length by omega]
        rw [hg]
        have hs : ((vs[n]'(by omega)).opens t m).Nodup := (starts_nodup (hv _ (List.getElem_mem _)) t).sublist (by unfold View.opens; exact List.filter_sublist)
        unfold List.Nodup at *
        rw [List.pairwise_map]
        exact hs.imp fun h e => h (by injection e)
      · intro a ha b hb e
        subst e
        obtain ⟨i, hi, e1⟩ := h2 a ha
        have e2 := hmem a hb
        omega
    · intro c hc
      rcases List.mem_append.1 hc with h | h
      · obtain ⟨i, hi, e⟩ := h2 c h
        exact ⟨i, by omega, e⟩
      · exact ⟨n, by omega, hmem c h⟩
theorem openN_cells {vs : List View} (hv : ∀ v ∈ vs, v.ok = true) {t : Int} (ht : -1152921504606846976 ≤ t) (ht2 : t ≤ 1152921504606846976) (m : Int) {n : Nat} (hn : n ≤ vs.length) : ∀ c ∈ openN vs t m n, c.k = ByteArray.empty ∧ -2305843009213693952 ≤ c.s ∧ c.s ≤ 2305843009213693952 := by
  intro c hc
  unfold openN at hc
  obtain ⟨i, hi, h⟩ := List.mem_flatMap.1 hc
  have hi := List.mem_range.1 hi
  unfold viewCells at h
  obtain ⟨s, hs, rfl⟩ := List.mem_map.1 h
  have hg : vs.getD i default = vs[i]'(by omega) := by simp [show i < vs.length by omega]
  rw [hg] at hs
  have hs2 : s ∈ (vs[i]'(by omega)).starts t := (List.mem_filter.1 hs).1
  have := starts_bounds (hv _ (List.getElem_mem (by omega))) ht ht2 s hs2
  exact ⟨rfl, by show _ ≤ s; omega, by show s ≤ _; omega⟩
theorem Mst.openL_nodup {S : Mst} (h : S.Inv) (k : ByteArray) {t : Int} (ht : -1152921504606846976 ≤ t) (ht2 : t ≤ 1152921504606846976) : (S.openL k t).Nodup := by
  unfold Mst.openL
  have h1 := (openN_nodup h.cfg.vok t (S.least k) S.cfg.vs.length (Nat.le_refl _)).1
  have h2 := openN_cells h.cfg.vok ht ht2 (S.least k) (Nat.le_refl S.cfg.vs.length)
  have h1' : (openCells S.cfg.vs t (S.least k)).Nodup := h1
  unfold List.Nodup at *
  rw [List.pairwise_map]
  refine List.Pairwise.imp_of_mem (fun {a b} ha hb hab e => hab ?_) h1'
  obtain ⟨av, ak, as'⟩ := a
  obtain ⟨bv, bk, bs'⟩ := b
  have ea := (h2 _ ha).1
  have eb := (h2 _ hb).1
  simp only at ea eb
  simp only [keyed, Cell.mk.injEq, true_and] at e
  rw [ea, eb, e.1, e.2]
theorem Mst.openL_ok {S : Mst} (h : S.Inv) {k : ByteArray} (hk1 : 1 ≤ k.size) (hk2 : k.size ≤ 32) {t : Int} (ht : -1152921504606846976 ≤ t) (ht2 : t ≤ 1152921504606846976) : ∀ c ∈ S.openL k t, cellOk S.cfg.vs c ∧ c.k = k := by
  intro c hc
  unfold Mst.openL at hc
  obtain ⟨d, hd, rfl⟩ := List.mem_map.1 hc
  obtain ⟨i, hi, e⟩ := (openN_nodup h.cfg.vok t (S.least k) S.cfg.vs.length (Nat.le_refl _)).2 d hd
  have h2 := openN_cells h.cfg.vok ht ht2 (S.least k) (Nat.le_refl S.cfg.vs.length) d hd
  exact ⟨⟨i, hi, e, hk1, hk2, h2.2.1, h2.2.2⟩, rfl⟩
theorem Mst.openL_len {S : Mst} (h : S.Inv) (k : ByteArray) (t : Int) : (S.openL k t).length ≤ 256 := by
  unfold Mst.openL
  rw [List.length_map]
  have h1 := openN_le h.cfg.vok t (S.least k) S.cfg.vs.length (Nat.le_refl _)
  have h2 := h.cfg.vhi
  have h3 : (openCells S.cfg.vs t (S.least k)).length ≤ 64 * S.cfg.vs.length := h1
  omega
theorem putZ_ok {a : Ag} {v : Int} (ha : a.Ok) (hv : is64 v) : (putZ a v).Ok := by
  unfold putZ
  cases h : putA a v with
  | none => exact ag_ok (by unfold is64; omega) (by unfold is64; omega) (by unfold is64; omega) (by unfold is64; omega)
  | some b => exact putA_ok ha hv h
theorem Mst.puts_cells (S : Mst) (k : ByteArray) (t v : Int) : (S.puts k t v).map (·.cell) = S.openL k t := by
  unfold Mst.puts
  rw [List.map_map]
  exact List.map_id _
theorem Mst.Inv.taken {S : Mst} (h : S.Inv) {k : ByteArray} (hk1 : 1 ≤ k.size) (hk2 : k.size ≤ 32) {t v : Int} (ht : -1152921504606846976 ≤ t) (ht2 : t ≤ 1152921504606846976) (hv : is64 v) : (S.taken k t v).Inv := by
  refine ⟨h.cfg, h.msl, h.mrow, h.tdl, putRows_rise h.rise (by rw [Mst.puts_cells]; exact Mst.openL_nodup h k ht ht2), ?_, h.now, h.old, h.slk, h.sok, ⟨by have := h.cnt.1; show 0 ≤ S.cnt.t + 1; omega, h.cnt.2⟩, h.tms, h.tok⟩
  intro r hr
  rcases (mem_putRows r).1 hr with h1 | ⟨h1, _⟩
  · unfold Mst.puts at h1
    obtain ⟨c, hc, rfl⟩ := List.mem_map.1 h1
    exact ⟨(Mst.openL_ok h hk1 hk2 ht ht2 c hc).1, putZ_ok (getA_ok (fun r hr => (h.may r hr).2) c) hv⟩
  · exact h.may r h1
/-- What has been written of the first cells. -/
def overL (S : Mst) (v : Int) (k : ByteArray) (cs : List Cell) : Bool := (cs.map (keyed k)).any fun c => (putA (getA S.L c) v).isNone
def rowsL (S : Mst) (v : Int) (k : ByteArray) (cs : List Cell) : List Rw := (cs.map (keyed k)).map (S.putRow v)
theorem overL_snoc (S : Mst) (v : Int) (k : ByteArray) (cs : List Cell) (c : Cell) : overL S v k (cs ++ [c]) = (overL S v k cs || (putA (getA S.L (keyed k c)) v).isNone) := by
  simp [overL]
theorem rowsL_snoc (S : Mst) (v : Int) (k : ByteArray) (cs : List Cell) (c : Cell) : rowsL S v k (cs ++ [c]) = rowsL S v k cs ++ [S.putRow v (keyed k c)] := by
  simp [rowsL]
theorem rowsL_cells (S : Mst) (v : Int) (k : ByteArray) (cs : List Cell) : (rowsL S v k cs).map (·.cell) = cs.map (keyed k) := by
  unfold rowsL
  rw [List.map_map]
  exact List.map_id _
/-- A cell that is not in a map of rows yet is written. -/
theorem HasMap.put_new {w : World} {b : Nat} {L : List Rw} (h : HasMap w b L) (xv : Int) (xk : ByteArray) (xs : Int) (a : Ag) (hc : (⟨xv, xk, xs⟩ : Cell) ∉ L.map (·.cell)) :
    ∃ w', (Instr.mapUpdate 83 (.map (some b)) (.agg #[.int .i64 xv, .string xk, .int .i64 xs]) (aggV a.c a.s a.mn a.mx)).run Try.prog w = .ok () w' ∧ HasMap w' b (L ++ [⟨⟨xv, xk, xs⟩, a⟩]) ∧ Chg [b] w w' ∧ w'.heap.size = w.heap.size := by
  obtain ⟨m, hm, hp⟩ := h
  obtain ⟨w', h1, h2, h3, h4⟩ := MapIs.update (P := Try.prog) keyCell Try.underlying83 hm ⟨xv, xk, xs⟩ (aggV a.c a.s a.mn a.mx)
  refine ⟨w', h1, ⟨_, h2, ?_⟩, Chg.of_grown h3, h4⟩
  have hn : (⟨xv, xk, xs⟩ : Cell) ∉ m.map (·.1) := fun h => hc ((perm_keys hp).mem_iff.1 h)
  unfold mPut
  rw [if_neg hn, List.map_append]
  exact hp.append_right _
end Go.Proofs.Ytaicecnfodhlcaa
/- Event: the walk. -/
set_option linter.unusedVariables false
set_option linter.unusedSimpArgs false
namespace Go.Proofs.Ytaicecnfodhlcaa
open Go.RowKit Go.Deep

abbrev itemV (mk : Bool) (k : ByteArray) (t v : Int) : Value := .agg #[.bool mk, .string k, .int .i64 t, .int .i64 v]
/-- What is wrong with the item itself. -/
def itemErr (mk : Bool) (k : ByteArray) (t : Int) : Option Int := if mk = true then some 1 else if k.size < 1 ∨ 32 < k.size then some 21 else if t < -1152921504606846976 ∨ 1152921504606846976 < t then some 22 else none

set_option maxRecDepth 100000 in
set_option maxHeartbeats 8000000 in
theorem event_item (B : MB) (mk full : Bool) (k : ByteArray) (t v : Int) (w : World) (x : Int) (he : itemErr mk k t = some x) (hk : k.size ≤ maxLen) :
    Calls Try.prog 10 #[.pointer (some ⟨B.mp, 0, none⟩), itemV mk k t v, .bool full] w fun e w' => e = .returned (.tuple #[.int .i64 0, .int .i64 x]) ∧ Below w.heap.size w w' := by
  have hb : Below w.heap.size w (w.alloc (.cells #[.bool mk, .string k, .int .i64 t, .int .i64 v] 36)) := (Below.refl _ _).alloc (Nat.le_refl _) _
  have Hb := Lib.hid hb
  clear hb
  unfold itemErr at he
  cases mk with
  | true =>
    obtain rfl : x = 1 := by simpa using he.symm
    clear he
    go_enter Try.func10, Try.ntmps10
    go_wp2_with fail
    go_ret2
    exact ⟨rfl, Hb.out⟩
  | false =>
    rw [if_neg (by simp)] at he
    by_cases h1 : k.size < 1 ∨ 32 < k.size
    · rw [if_pos h1] at he
      obtain rfl : x = 21 := by simpa using he.symm
      clear he
      by_cases h2 : k.size < 1
      · have h3 : (k.size : Int) < 1 := by omega
        go_enter Try.func10, Try.ntmps10
        go_wp2_with fail
        go_ret2
        exact ⟨rfl, Hb.out⟩
      · have h3 : ¬ (k.size : Int) < 1 := by omega
        have h4 : (32 : Int) < (k.size : Int) := by omega
        go_enter Try.func10, Try.ntmps10
        go_wp2_with fail
        go_ret2
        exact ⟨rfl, Hb.out⟩
    · rw [if_neg h1] at he
      have h3 : ¬ (k.size : Int) < 1 := by omega
      have h4 : ¬ (32 : Int) < (k.size : Int) := by omega
      by_cases h5 : t < -1152921504606846976 ∨ 1152921504606846976 < t
      · rw [if_pos h5] at he
        obtain rfl : x = 22 := by simpa using he.symm
        clear he
        by_cases h6 : t < -1152921504606846976
        · go_enter Try.func10, Try.ntmps10
          go_wp2_with fail
          go_ret2
          exact ⟨rfl, Hb.out⟩
        · have h7 : 1152921504606846976 < t := by omega
          go_enter Try.func10, Try.ntmps10
          go_wp2_with fail
          go_ret2
          exact ⟨rfl, Hb.out⟩
      · rw [if_neg h5] at he; cases he

set_option maxRecDepth 100000 in
set_option maxHeartbeats 8000000 in
theorem event_due {w : World} {B : MB} {S : Mst} (h : IsModel w B S) (full : Bool) (k : ByteArray) (t v : Int) (hk1 : 1 ≤ k.size) (hk2 : k.size ≤ 32) (ht : -1152921504606846976 ≤ t) (ht2 : t ≤ 1152921504606846976) (hmax : S.L.length ≤ 100000000) (hd : (S.dueOf (oprK k S.cfg.op)).isSome = true) :
    Calls Try.prog 10 #[.pointer (some ⟨B.mp, 0, none⟩), itemV false k t v, .bool full] w fun e w' => e = .returned (.tuple #[.int .i64 0, .int .i64 53]) ∧ Below w.heap.size w w' := by
  have hb : Below w.heap.size w (w.alloc (.cells #[.bool false, .string k, .int .i64 t, .int .i64 v] 36)) := (Below.refl _ _).alloc (Nat.le_refl _) _
  have hbd := oprK_bd k h.inv.cfg.op.1 h.inv.cfg.op.2
  have hopr := mOperator_any (h.below hb) k (Nat.le_trans hk2 (by decide))
  have hdue : ∀ W, Below w.heap.size w W → Calls Try.prog 29 #[.pointer (some ⟨B.mp, 0, none⟩), .int .i64 (oprK k S.cfg.op)] W fun e w' => e = .returned (dueV (S.dueOf (oprK k S.cfg.op))) ∧ Below W.heap.size W w' := fun W hW => due_any (h.below hW) _ hbd.1 hbd.2 hmax
  obtain ⟨d, hd2⟩ := Option.isSome_iff_exists.1 hd
  rw [hd2] at hdue
  obtain ⟨dv, dk, ds⟩ := d
  have Hb := Lib.hid hb
  have Hdue := Lib.hid hdue
  have h3 : ¬ (k.size : Int) < 1 := by omega
  have h4 : ¬ (32 : Int) < (k.size : Int) := by omega
  have h5 : ¬ t < -1152921504606846976 := by omega
  have h6 : ¬ 1152921504606846976 < t := by omega
  clear h hb hdue hd hd2 hbd hmax
  generalize oprK k S.cfg.op = o at *
  go_enter Try.func10, Try.ntmps10
  go_wp2_with fail
  refine hopr.mono ?_
  rintro e w1 ⟨rfl, hb1⟩
  have hb1' := Hb.out.trans (hb1.mono Hb.out.size)
  have hdue := Hdue.out w1 hb1'
  have Hb1 := Lib.hid hb1'
  clear hb1 hb1' Hdue hopr
  go_wp2_with fail
  refine hdue.mono ?_
  rintro e w2 ⟨rfl, hb2⟩
  have Hb2 := Lib.hid (Hb1.out.trans (hb2.mono Hb1.out.size))
  clear hb2 hdue
  go_wp2_with fail
  go_ret2
  exact ⟨rfl, Hb2.out.alloc Hb2.out.size _⟩
end Go.Proofs.Ytaicecnfodhlcaa
/- Event: the walk through the open cells, and what comes of it. -/
set_option linter.unusedVariables false
set_option linter.unusedSimpArgs false
namespace Go.Proofs.Ytaicecnfodhlcaa
open Go.RowKit Go.Deep

/-- What stays in the drawn region ahead of Open. -/
abbrev EvA (mp vb vo n vcap mb mo k nm mcap bm g : Nat) (t : Int) (W0 W : World) : Prop :=
  Below W0.heap.size W0 W ∧ W.cell? ⟨mp, 0, none⟩ = some (.slice (some ⟨vb, vo, none⟩) n vcap) ∧ W.cell? ⟨mp, 13, none⟩ = some (.slice (some ⟨mb, mo, none⟩) nm mcap) ∧
    W.cell? ⟨mb, mo + k, none⟩ = some (.pointer (some ⟨bm, 0, none⟩)) ∧ W.cell? ⟨g, 2, none⟩ = some (.int .i64 t)

theorem meet_end2 {K J : Act → World → Prop} {Q : Exit → Act → World → Prop} {a : Act} {w : World} (h : ∀ a' w', Met J a' w' → K a' w') (h2 : J a w) : Exit.then K Q Exit.normal a w := h _ _ h2
/-- Put, with what it tells where there is no room. -/
theorem mput2 (a : Ag) (v : Int) (w : World) (ha : a.Ok) (hv : is64 v) :
    Calls Try.prog 30 #[aggV a.c a.s a.mn a.mx, .int .i64 v] w fun e w' => ∃ err : Value, e = .returned (.tuple #[aggV (putZ a v).c (putZ a v).s (putZ a v).mn (putZ a v).mx, err]) ∧ (if (putA a v).isNone then ∃ g, err = .iface 161 (.pointer (some ⟨g, 0, none⟩)) else err = .nilIface) ∧ Below w.heap.size w w' := by
  unfold putZ
  cases h : putA a v with
  | none =>
    refine (put_none a v w ha hv h).mono ?_
    rintro e w' ⟨g, he, hb⟩
    exact ⟨_, he, ⟨g, rfl⟩, hb⟩
  | some b =>
    refine (put_some a b v w ha hv h).mono ?_
    rintro e w' ⟨he, hb⟩
    exact ⟨_, he, rfl, hb⟩
/-- What stays in the round's drawn region. -/
abbrev EvB (mp bt g7 gb : Nat) (v : Int) (cv : Int) (k : ByteArray) (cs : Int) (lk : Value) (W0 W : World) : Prop :=
  Below W0.heap.size W0 W ∧ W.cell? ⟨mp, 12, none⟩ = some (.map (some bt)) ∧ W.cell? ⟨g7, 0, none⟩ = some (.int .i64 cv) ∧ W.cell? ⟨g7, 1, none⟩ = some (.string k) ∧ W.cell? ⟨g7, 2, none⟩ = some (.int .i64 cs) ∧ W.cell? ⟨gb, 3, none⟩ = some (.int .i64 v) ∧
    (Instr.lookup 83 (.map (some bt)) (.agg #[.int .i64 cv, .string k, .int .i64 cs]) false).run Try.prog W = .ok lk W
theorem evb_alloc {W0 W : World} {P : World → World → Prop} (h : Below W0.heap.size W0 W ∧ P W0 W) (o : Obj) : Below W0.heap.size W0 (W.alloc o) := h.1.alloc h.1.size o
theorem evb_set4 {W0 W : World} {P : World → World → Prop} (h : Below W0.heap.size W0 W ∧ P W0 W) (a b c d : Value) : Below W0.heap.size W0 ((((W.setCell ⟨W0.heap.size, 0, none⟩ a).setCell ⟨W0.heap.size, 1, none⟩ b).setCell ⟨W0.heap.size, 2, none⟩ c).setCell ⟨W0.heap.size, 3, none⟩ d) :=
  (((h.1.setCell (p := ⟨W0.heap.size, 0, none⟩) (Nat.le_refl _) _).setCell (p := ⟨W0.heap.size, 1, none⟩) (Nat.le_refl _) _).setCell (p := ⟨W0.heap.size, 2, none⟩) (Nat.le_refl _) _).setCell (p := ⟨W0.heap.size, 3, none⟩) (Nat.le_refl _) _
theorem Mst.Inv.counts {S : Mst} (h : S.Inv) {c : Cnt} (hc : 0 ≤ c.t ∧ 0 ≤ c.l ∧ 0 ≤ c.o ∧ 0 ≤ c.f) : (S.counts c).Inv := ⟨h.cfg, h.msl, h.mrow, h.tdl, h.rise, h.may, h.now, h.old, h.slk, h.sok, hc, h.tms, h.tok⟩
theorem IsModel.counted {w : World} {B : MB} {S : Mst} (h : IsModel w B S) (c : Cnt) (a : Nat) (v : Value) (hc : 0 ≤ c.t ∧ 0 ≤ c.l ∧ 0 ≤ c.o ∧ 0 ≤ c.f) (ho : PObj (w.setCell ⟨B.mp, a, none⟩ v) B (S.counts c)) :
    IsModel (w.setCell ⟨B.mp, a, none⟩ v) B (S.counts c) ∧ Turn w (w.setCell ⟨B.mp, a, none⟩ v) B B := by
  have hch : Chg [B.mp] w (w.setCell ⟨B.mp, a, none⟩ v) := Chg.set w (a := ⟨B.mp, a, none⟩) (by simp) v
  exact ⟨h.struct ho hch.size (fun g hg hn => hch.block g hg (by simpa using hn)) rfl rfl rfl rfl rfl rfl (h.inv.counts hc), Turn.of_chg hch (fun g hg => by rw [List.mem_singleton.1 hg, h.obj.lb]; simp)⟩
theorem IsModel.cntT {w : World} {B : MB} {S : Mst} (h : IsModel w B S) : IsModel (w.setCell ⟨B.mp, 18, none⟩ (.int .i64 (S.cnt.t + 1))) B (S.counts { S.cnt with t := S.cnt.t + 1 }) ∧ Turn w (w.setCell ⟨B.mp, 18, none⟩ (.int .i64 (S.cnt.t + 1))) B B :=
  h.counted _ 18 _ ⟨by have := h.inv.cnt.1; show 0 ≤ S.cnt.t + 1; omega, h.inv.cnt.2⟩ ⟨set_obj h.obj.obj 18 _, h.obj.lb⟩
theorem IsModel.cntL {w : World} {B : MB} {S : Mst} (h : IsModel w B S) : IsModel (w.setCell ⟨B.mp, 19, none⟩ (.int .i64 (S.cnt.l + 1))) B (S.counts { S.cnt with l := S.cnt.l + 1 }) ∧ Turn w (w.setCell ⟨B.mp, 19, none⟩ (.int .i64 (S.cnt.l + 1))) B B :=
  h.counted _ 19 _ ⟨h.inv.cnt.1, by have := h.inv.cnt.2.1; show 0 ≤ S.cnt.l + 1; omega, h.inv.cnt.2.2⟩ ⟨set_obj h.obj.obj 19 _, h.obj.lb⟩
theorem IsModel.cntO {w : World} {B : MB} {S : Mst} (h : IsModel w B S) : IsModel (w.setCell ⟨B.mp, 20, none⟩ (.int .i64 (S.cnt.o + 1))) B (S.counts { S.cnt with o := S.cnt.o + 1 }) ∧ Turn w (w.setCell ⟨B.mp, 20, none⟩ (.int .i64 (S.cnt.o + 1))) B B :=
  h.counted _ 20 _ ⟨h.inv.cnt.1, h.inv.cnt.2.1, by have := h.inv.cnt.2.2.1; show 0 ≤ S.cnt.o + 1; omega, h.inv.cnt.2.2.2⟩ ⟨set_obj h.obj.obj 20 _, h.obj.lb⟩
theorem IsModel.cntF {w : World} {B : MB} {S : Mst} (h : IsModel w B S) : IsModel (w.setCell ⟨B.mp, 21, none⟩ (.int .i64 (S.cnt.f + 1))) B (S.counts { S.cnt with f := S.cnt.f + 1 }) ∧ Turn w (w.setCell ⟨B.mp, 21, none⟩ (.int .i64 (S.cnt.f + 1))) B B :=
  h.counted _ 21 _ ⟨h.inv.cnt.1, h.inv.cnt.2.1, h.inv.cnt.2.2.1, by have := h.inv.cnt.2.2.2; show 0 ≤ S.cnt.f + 1; omega⟩ ⟨set_obj h.obj.obj 21 _, h.obj.lb⟩
theorem Mst.event_go (S : Mst) (k : ByteArray) (t v : Int) (full : Bool) (hk1 : 1 ≤ k.size) (hk2 : k.size ≤ 32) (ht : -1152921504606846976 ≤ t) (ht2 : t ≤ 1152921504606846976) (hd : S.dueOf (oprK k S.cfg.op) = none) :
    S.event false k t v full = (if (full && (S.late k t || S.over k t v || (S.openL k t).isEmpty)) = true then (S, 0, 51) else if S.late k t = true then (S.counts { S.cnt with l := S.cnt.l + 1 }, 2, 0) else if S.over k t v = true then (S.counts { S.cnt with o := S.cnt.o + 1 }, 3, 0)
      else if full = true then (S.counts { S.cnt with f := S.cnt.f + 1 }, 4, 0) else (S.taken k t v, 1, 0)) := by
  unfold Mst.event
  rw [if_neg (by simp), if_neg (by omega), if_neg (by omega), hd]
  rw [if_neg (by simp)]
set_option maxRecDepth 100000 in
set_option maxHeartbeats 8000000 in
theorem event_main {w : World} {B : MB} {S : Mst} (h : IsModel w B S) (full : Bool) (k : ByteArray) (t v : Int) (hk1 : 1 ≤ k.size) (hk2 : k.size ≤ 32) (ht : -1152921504606846976 ≤ t) (ht2 : t ≤ 1152921504606846976) (hv : is64 v) (hmax : S.L.length ≤ 100000000) (hcn : S.cnt.t ≤ 100000000 ∧ S.cnt.l ≤ 100000000 ∧ S.cnt.o ≤ 100000000 ∧ S.cnt.f ≤ 100000000) (hd : S.dueOf (oprK k S.cfg.op) = none) :
    Calls Try.prog 10 #[.pointer (some ⟨B.mp, 0, none⟩), itemV false k t v, .bool full] w fun e w' => e = .returned (.tuple #[.int .i64 (S.event false k t v full).2.1, .int .i64 (S.event false k t v full).2.2]) ∧ IsModel w' B (S.event false k t v full).1 ∧ Turn w w' B B := by
  have hb : Below w.heap.size w (w.alloc (.cells #[.bool false, .string k, .int .i64 t, .int .i64 v] 36)) := (Below.refl _ _).alloc (Nat.le_refl _) _
  have hbd := oprK_bd k h.inv.cfg.op.1 h.inv.cfg.op.2
  have hopr := mOperator_any (h.below hb) k (Nat.le_trans hk2 (by decide))
  have hdue : ∀ W, Below w.heap.size w W → Calls Try.prog 29 #[.pointer (some ⟨B.mp, 0, none⟩), .int .i64 (oprK k S.cfg.op)] W fun e w' => e = .returned (dueV (S.dueOf (oprK k S.cfg.op))) ∧ Below W.heap.size W w' := fun W hW => due_any (h.below hW) _ hbd.1 hbd.2 hmax
  rw [hd] at hdue
  have hmp : B.mp < w.heap.size := h.lt _ (by rw [h.obj.lb]; simp)
  have hf0 : (w.alloc (.cells #[.bool false, .string k, .int .i64 t, .int .i64 v] 36)).heap[w.heap.size]? = some (.cells #[.bool false, .string k, .int .i64 t, .int .i64 v] 36 (0, 0)) := blk_at rfl
  obtain ⟨vb, hve, _, hvb⟩ := h.views.own.pos h.inv.cfg.vlo
  obtain ⟨mb, mo, bm, bl, hme, hmb, m0, hmk⟩ := h.markAt hbd.1 hbd.2
  obtain ⟨c0, _, _, _, c12, c13, _⟩ := h.obj.cells
  have hoi : oprK k S.cfg.op < (S.ms.length : Int) := by rw [h.inv.msl]; exact hbd.2
  have hop0 := hbd.1
  have hoo : ((oprK k S.cfg.op).toNat : Int) = oprK k S.cfg.op := by omega
  have hopen : ∀ W, Below w.heap.size w W → Calls Try.prog 21 #[.pointer (some ⟨bm, 0, none⟩), .int .i64 t, .slice (some ⟨vb, 0, none⟩) S.cfg.vs.length B.vcap] W fun e w' => ∃ v, e = .returned (.tuple #[v, .bool (S.late k t), .int .i64 0]) ∧ Own 46 3 cellL W.heap.size w' v (openCells S.cfg.vs t (S.least k)) ∧ Below W.heap.size W w' := by
    intro W hW
    have hsv := ((h.below hW).views.own.sl0 fun _ => rfl)
    rw [hve] at hsv
    exact openCells_any bm bl _ t _ B.vcap S.cfg.vs W (hmk.keep (hW.block _ hmk.lt.1) (hW.block _ hmk.lt.2)) hsv h.inv.cfg.vok h.inv.cfg.vhi ht ht2
  rw [hve] at c0
  rw [hme] at c13
  have kA : ∀ W0, Below w.heap.size w W0 → W0.heap[w.heap.size]? = some (.cells #[.bool false, .string k, .int .i64 t, .int .i64 v] 36 (0, 0)) → ∀ W, Below W0.heap.size W0 W → EvA B.mp vb 0 S.cfg.vs.length B.vcap mb mo (oprK k S.cfg.op).toNat S.ms.length B.mcap bm w.heap.size t W0 W := by
    intro W0 h0 hf W hW
    have hbw := h0.trans (hW.mono h0.size)
    have f9 := (hW.block w.heap.size (lt_of_block hf)).trans hf
    exact ⟨hW, (hbw.cell (p := ⟨B.mp, 0, none⟩) hmp).trans c0, (hbw.cell (p := ⟨B.mp, 13, none⟩) hmp).trans c13, (hbw.cell (p := ⟨mb, _, none⟩) hmb).trans m0, cell_blk f9 2⟩
  have Hh := Lib.hid h
  have Hb := Lib.hid hb
  have Hf0 := Lib.hid hf0
  have Hdue := Lib.hid hdue
  have Hopen := Lib.hid hopen
  have HkA := Lib.hid kA
  have Hd := Lib.hid hd
  have Hcn := Lib.hid hcn
  have h3 : ¬ (k.size : Int) < 1 := by omega
  have h4 : ¬ (32 : Int) < (k.size : Int) := by omega
  have h5 : ¬ t < -1152921504606846976 := by omega
  have h6 : ¬ 1152921504606846976 < t := by omega
  clear hb hdue hd hcn hbd hmax hopen kA c0 c13 m0 hmk hve hme hf0 c12
  generalize hoE : oprK k S.cfg.op = o at *
  have HoE := Lib.hid hoE
  clear hoE h
  go_enter Try.func10, Try.ntmps10
  go_wp2_with fail
  refine hopr.mono ?_
  rintro e w1 ⟨rfl, hb1⟩
  have hb1' := Hb.out.trans (hb1.mono Hb.out.size)
  have hf1 := (hb1.block _ (lt_of_block Hf0.out)).trans Hf0.out
  have hdue := Hdue.out w1 hb1'
  have Hb1 := Lib.hid hb1'
  have Hf1 := Lib.hid hf1
  clear hb1 hb1' Hdue hopr hf1
  go_wp2_with fail
  refine hdue.mono ?_
  rintro e w2 ⟨rfl, hb2⟩
  have hf2 := (hb2.block _ (lt_of_block Hf1.out)).trans Hf1.out
  have Hb2 := Lib.hid (Hb1.out.trans (hb2.mono Hb1.out.size))
  have hb3 : Below w.heap.size w (w2.alloc (.cells #[.int .i64 (default : Cell).v, .string (default : Cell).k, .int .i64 (default : Cell).s] 46)) := Hb2.out.alloc Hb2.out.size _
  have hf3 : (w2.alloc (.cells #[.int .i64 (default : Cell).v, .string (default : Cell).k, .int .i64 (default : Cell).s] 46)).heap[w.heap.size]? = _ := (blk_old (lt_of_block hf2)).trans hf2
  have kA := HkA.out _ hb3 hf3
  have Hb3 := Lib.hid hb3
  have Hf3 := Lib.hid hf3
  clear hb2 hdue hf2 hb3 hf3
  go_wp2_with fail
  generalize (w2.alloc (.cells #[.int .i64 (default : Cell).v, .string (default : Cell).k, .int .i64 (default : Cell).s] 46)) = W3 at *
  have kAD := kA _ (Below.refl _ _).drew
  go_region_held3 (fun W => EvA B.mp vb 0 S.cfg.vs.length B.vcap mb mo o.toNat S.ms.length B.mcap bm w.heap.size t W3 W) (first | exact kAD | assumption)
    (first
      | (go_at_call 21; refine (Hopen.out _ (Hb3.out.trans (kAD.1.mono Hb3.out.size))).mono ?_; rintro e w4 ⟨vO, rfl, hoO, hb4⟩; obtain ⟨oa, oc, rfl, _⟩ := hoO.sl fun _ => rfl; have hk4 := kA _ (Below.trans kAD.1 (hb4.mono kAD.1.size))))
  have hmm : (Instr.makeMap 83 none).run Try.prog w4 = .ok (.map (some w4.heap.size)) (w4.alloc (.map #[] 0)) := rfl
  have hb4' := Hb3.out.trans (hk4.1.mono Hb3.out.size)
  have hb5 : Below w.heap.size w (w4.alloc (.map #[] 0)) := hb4'.alloc hb4'.size _
  have hf4 := (hk4.1.block _ (lt_of_block Hf3.out)).trans Hf3.out
  have hlt4 := lt_of_block hf4
  have hf5 : (w4.alloc (.map #[] 0)).heap[w.heap.size]? = some (.cells #[.bool false, .string k, .int .i64 t, .int .i64 v] 36 (0, 0)) := (blk_old (lt_of_block hf4)).trans hf4
  have hsO := hoO.sl0 fun _ => rfl
  have HsO := Lib.hid hsO
  have hmap5 : HasMap (w4.alloc (.map #[] 0)) w4.heap.size [] := ⟨[], MapIs.new w4, by simp⟩
  have hbw0 : w.heap.size ≤ w4.heap.size := hb4'.size
  have hge0 : W3.drew.heap.size ≤ w4.heap.size := hb4.size
  have hW3 := Hb3.out.size
  have Hb5 := Lib.hid hb5
  have Hf5 := Lib.hid hf5
  have HM5 := Lib.hid hmap5
  have holen := Mst.openL_len Hh.out.inv k t
  have holn : (openCells S.cfg.vs t (S.least k)).length ≤ 256 := by simpa [Mst.openL] using holen
  generalize hops : openCells S.cfg.vs t (S.least k) = ops at *
  have Hops := Lib.hid hops
  clear hb4' hb5 hf4 hf5 hsO hmap5 hoO hb4 hk4 kAD kA hops holen HkA Hopen Hf3 Hb3 Hb2 Hb1 Hf1 Hb Hf0
  have hz5 : w4.heap.size + 1 ≤ (w4.alloc (.map #[] 0)).heap.size := by simp
  have hold5 : ∀ g, g < w4.heap.size → (w4.alloc (.map #[] 0)).heap[g]? = w4.heap[g]? := fun g hg => blk_old hg
  have Hold5 := Lib.hid hold5
  clear hold5
  go_wp2_with fail
  generalize hW5 : w4.alloc (.map #[] 0) = W5 at *
  clear hW5
  generalize hbw : w4.heap.size = bw at *
  have Hbw := Lib.hid hbw
  clear hbw
  go_loopg [15, 76] ops.length (fun g s15 s76 wr => ∃ j : Nat, j + g = ops.length ∧ s15 = .bool (overL S v k (ops.take j)) ∧ s76 = .int .i64 j ∧ HasMap wr bw (rowsL S v k (ops.take j)) ∧ Chg [bw] W5 wr)
  case atStart => exact ⟨0, by omega, rfl, rfl, HM5.out, Chg.refl _ _⟩
  case round =>
    obtain ⟨j, hj, rfl, rfl, hmw, hch⟩ := hrel
    have Hj := Lib.hid hj
    have Hmw := Lib.hid hmw
    have Hch := Lib.hid hch
    clear hj hmw hch
    by_cases hlt : j < ops.length
    · obtain ⟨ob, oo, rfl, hob, h0, h1, h2⟩ := HsO.out.at3 hlt rfl
      rw [Hbw.out] at hob
      have hsz := Hch.out.size
      have hkw : ∀ g, g < bw → wr.heap[g]? = w4.heap[g]? := fun g hg => (Hch.out.block g (by omega) (by simp; omega)).trans (Hold5.out g hg)
      have hbr : Below w.heap.size w wr := Below.chain Hb5.out Hch.out (by omega) (fun x hx => by rw [List.mem_singleton.1 hx]; omega)
      have hfr := (Hch.out.block w.heap.size (by have := lt_of_block Hf5.out; omega) (by simp; omega)).trans Hf5.out
      have d0 := (World.cell?_of_block (a := ⟨ob, oo + j * 3, none⟩) (hkw ob hob)).trans h0
      have d1 := (World.cell?_of_block (a := ⟨ob, oo + j * 3 + 1, none⟩) (hkw ob hob)).trans h1
      have d2 := (World.cell?_of_block (a := ⟨ob, oo + j * 3 + 2, none⟩) (hkw ob hob)).trans h2
      have c41 := cell_blk hfr 1
      simp at c41
      have Hfr := Lib.hid hfr
      have Hbr := Lib.hid hbr
      have Hkw := Lib.hid hkw
      clear h0 h1 h2 hfr hbr hkw
      generalize hc : ops[j] = c at *
      obtain ⟨cv, ck, cs⟩ := c
      have Hc := Lib.hid hc
      clear hc
      dsimp only at *
      have e41 : (wr.alloc (.cells #[.int .i64 cv, .string ck, .int .i64 cs] 46)).cell? ⟨w.heap.size, 1, none⟩ = some (.string k) := (((Below.refl wr.heap.size wr).alloc (Nat.le_refl _) _).cell (p := ⟨w.heap.size, 1, none⟩) (lt_of_block Hfr.out)).trans c41
      have hb7 : Below wr.heap.size wr (wr.alloc (.cells #[.int .i64 cv, .string k, .int .i64 cs] 46)) := (Below.refl _ _).alloc (Nat.le_refl _) _
      have hz7 : (wr.alloc (.cells #[.int .i64 cv, .string k, .int .i64 cs] 46)).heap.size = wr.heap.size + 1 := by simp
      have kB : ∀ W, Below (wr.alloc (.cells #[.int .i64 cv, .string k, .int .i64 cs] 46)).heap.size (wr.alloc (.cells #[.int .i64 cv, .string k, .int .i64 cs] 46)) W → EvB B.mp B.bt wr.heap.size w.heap.size v cv k cs (aggV (getA S.L ⟨cv, k, cs⟩).c (getA S.L ⟨cv, k, cs⟩).s (getA S.L ⟨cv, k, cs⟩).mn (getA S.L ⟨cv, k, cs⟩).mx) (wr.alloc (.cells #[.int .i64 cv, .string k, .int .i64 cs] 46)) W := by
        intro W hW
        have hb8 := hb7.trans (hW.mono (by omega))
        have hbw := Hbr.out.trans (hb8.mono Hbr.out.size)
        have hm := Hh.out.below hbw
        have f7 := (hW.block wr.heap.size (by omega)).trans (blk_at (w := wr) (o := .cells #[.int .i64 cv, .string k, .int .i64 cs] 46) rfl)
        have f8 := (hb8.block w.heap.size (lt_of_block Hfr.out)).trans Hfr.out
        obtain ⟨_, _, _, _, c12, _⟩ := hm.obj.cells
        have hg := hm.there.map.get cv k cs false
        exact ⟨hW, c12, cell_blk f7 0, cell_blk f7 1, cell_blk f7 2, cell_blk f8 3, hg⟩
      have hput := fun W => mput2 (getA S.L ⟨cv, k, cs⟩) v W (getA_ok (fun r hr => (Hh.out.inv.may r hr).2) _) hv
      have HkB := Lib.hid kB
      have Hput := Lib.hid hput
      clear kB hput hz7
      go_wp2_with fail
      generalize hW7 : wr.alloc (.cells #[.int .i64 cv, .string k, .int .i64 cs] 46) = W7 at *
      have kB := HkB.out
      have hput := Hput.out
      have HW7 := Lib.hid hW7
      have Hb7 := Lib.hid hb7
      clear hW7 hb7
      generalize hagE : getA S.L ⟨cv, k, cs⟩ = ag at *
      have HagE := Lib.hid hagE
      clear hagE
      obtain ⟨ac, au, an, ax⟩ := ag
      dsimp only at *
      go_cut [18, 19, 76] from 76 to 103 (fun s18 s19 s76 wx => ∃ (g : Nat) (err : Value), s18 = .pointer (some ⟨g, 0, none⟩) ∧ s19 = err ∧ s76 = .int .i64 j ∧ (if (putA ⟨ac, au, an, ax⟩ v).isNone then ∃ g, err = .iface 161 (.pointer (some ⟨g, 0, none⟩)) else err = .nilIface) ∧
        wx.heap[g]? = some (.cells #[.int .i64 (putZ ⟨ac, au, an, ax⟩ v).c, .int .i64 (putZ ⟨ac, au, an, ax⟩ v).s, .int .i64 (putZ ⟨ac, au, an, ax⟩ v).mn, .int .i64 (putZ ⟨ac, au, an, ax⟩ v).mx] 51 (0, 0)) ∧ Below W7.heap.size W7 wx)
      case first =>
        have kBD := kB _ (Below.refl _ _).drew
        have kBA : ∀ o : Obj, EvB B.mp B.bt wr.heap.size w.heap.size v cv k cs (aggV ac au an ax) W7 (W7.alloc o).drew := fun o => kB _ (((Below.refl _ _).alloc (Nat.le_refl _) o).drew)
        have hbA : ∀ o : Obj, (W7.alloc o).drew.heap[W7.heap.size]? = some o := fun o => blk_at rfl
        have hzA : ∀ o : Obj, W7.heap.size < (W7.alloc o).drew.heap.size := fun o => by show _ < (W7.alloc o).heap.size; simp
        go_region_held3 (fun W => EvB B.mp B.bt wr.heap.size w.heap.size v cv k cs (aggV ac au an ax) W7 W) (first | exact kBD | assumption | exact kBA _ | exact kB _ (Below.alloc (And.left (by assumption)) (Below.size (And.left (by assumption))) _) | exact kB _ ((((Below.setCell (And.left (by assumption)) (p := ⟨W7.heap.size, 0, none⟩) (Nat.le_refl _) _).setCell (p := ⟨W7.heap.size, 1, none⟩) (Nat.le_refl _) _).setCell (p := ⟨W7.heap.size, 2, none⟩) (Nat.le_refl _) _).setCell (p := ⟨W7.heap.size, 3, none⟩) (Nat.le_refl _) _))
          (first
            | (go_at_call 30; refine (hput _).mono ?_; rintro e w8 ⟨err, rfl, herr, hb8⟩; first | have hk8 := kB w8 (Below.trans kBD.1 (hb8.mono kBD.1.size)) | (have hk8 := kB w8 (Below.trans (kBA _).1 (hb8.mono (kBA _).1.size)); have hf8 := (hb8.block W7.heap.size (hzA _)).trans (hbA _); have r0 := cell_blk hf8 0; have r1 := cell_blk hf8 1; have r2 := cell_blk hf8 2; have r3 := cell_blk hf8 3; simp at r0 r1 r2 r3; have rf := frozen_blk hf8)))
        all_goals (
          refine meet_end2 (by assumption) ?_
          go_step
          (repeat apply Exists.intro)
          refine ⟨?_, rfl⟩
          first
            | exact ⟨W7.heap.size, err, rfl, rfl, rfl, herr, set_obj (set_obj (set_obj (set_obj hf8 0 _) 1 _) 2 _) 3 _, (((hk8.1.setCell (p := ⟨W7.heap.size, 0, none⟩) (Nat.le_refl _) _).setCell (p := ⟨W7.heap.size, 1, none⟩) (Nat.le_refl _) _).setCell (p := ⟨W7.heap.size, 2, none⟩) (Nat.le_refl _) _).setCell (p := ⟨W7.heap.size, 3, none⟩) (Nat.le_refl _) _⟩
            | exact ⟨w8.heap.size, err, rfl, rfl, rfl, herr, blk_at rfl, hk8.1.alloc hk8.1.size _⟩)
      case rest =>
        obtain ⟨g8, err, rfl, rfl, rfl, herr, hg8, hb8⟩ := hcut
        clear kB hput
        have hW7 : wr.heap.size < W7.heap.size := by rw [← HW7.out]; simp
        have f7 := (hb8.block wr.heap.size hW7).trans (show W7.heap[wr.heap.size]? = some (.cells #[.int .i64 cv, .string k, .int .i64 cs] 46 (0, 0)) by rw [← HW7.out]; exact blk_at rfl)
        have hkc : ∀ g, g < wr.heap.size → wc.heap[g]? = wr.heap[g]? := fun g hg => (hb8.block g (by omega)).trans (Hb7.out.block g hg)
        have hmc := Hmw.out.keep (hkc bw (by omega))
        have hck : keyed k ops[j] = ⟨cv, k, cs⟩ := by rw [Hc.out]
        have hts : ops.take (j + 1) = ops.take j ++ [ops[j]] := List.take_succ_eq_append_getElem hlt
        have hnd : (ops.map (keyed k)).Nodup := by
          have := Mst.openL_nodup Hh.out.inv k ht ht2
          unfold Mst.openL at this
          rw [Hops.out] at this
          exact this
        have hnew : (⟨cv, k, cs⟩ : Cell) ∉ (rowsL S v k (ops.take j)).map (·.cell) := by
          rw [rowsL_cells, ← hck]
          have h9 : ((ops.take (j + 1)).map (keyed k)).Nodup := hnd.sublist (List.Sublist.map _ (List.take_sublist _ _))
          rw [hts, List.map_append, List.nodup_append] at h9
          exact fun h => h9.2.2 _ h _ (by simp) rfl
        obtain ⟨w9, hrun, hm9, hc9, hz9⟩ := hmc.put_new cv k cs (putZ ⟨ac, au, an, ax⟩ v) hnew
        have hch9 : Chg [bw] W5 w9 := by
          refine ⟨?_, ?_, ?_, ?_, fun g hg hn => ?_⟩
          · exact hc9.os.trans (hb8.os.trans (Hb7.out.os.trans Hch.out.os))
          · exact hc9.tape.trans (hb8.tape.trans (Hb7.out.tape.trans Hch.out.tape))
          · exact hc9.output.trans (hb8.output.trans (Hb7.out.output.trans Hch.out.output))
          · have := hb8.size; have := Hb7.out.size; omega
          · exact (hc9.block g (by have := hb8.size; have := Hb7.out.size; omega) hn).trans ((hkc g (by omega)).trans (Hch.out.block g hg hn))
        have hrows : HasMap w9 bw (rowsL S v k (ops.take (j + 1))) := by
          rw [hts, rowsL_snoc, hck]
          show HasMap w9 bw (_ ++ [⟨_, putZ (getA S.L ⟨cv, k, cs⟩) v⟩])
          rw [HagE.out]
          exact hm9
        have hov : overL S v k (ops.take (j + 1)) = (overL S v k (ops.take j) || (putA ⟨ac, au, an, ax⟩ v).isNone) := by
          rw [hts, overL_snoc, hck, HagE.out]
        have Hrel := Lib.hid (And.intro hrows (And.intro hch9 hov))
        have p0 := cell_blk hg8 0
        have p1 := cell_blk hg8 1
        have p2 := cell_blk hg8 2
        have p3 := cell_blk hg8 3
        have q0 := cell_blk f7 0
        have q1 := cell_blk f7 1
        have q2 := cell_blk f7 2
        simp at p0 p1 p2 p3 q0 q1 q2
        clear hb8 hg8 hW7 f7 hkc hmc hck hts hnd hnew hm9 hc9 hz9 hch9 hrows hov d0 d1 d2 c41
        generalize hpz : putZ ⟨ac, au, an, ax⟩ v = pz at *
        obtain ⟨zc, zu, zn, zx⟩ := pz
        dsimp only at *
        generalize hovj : overL S v k (ops.take j) = ov at *
        have Hov := Lib.hid hovj
        have Hpz := Lib.hid hpz
        clear hovj hpz
        cases hn : (putA ⟨ac, au, an, ax⟩ v).isNone
        · rw [hn] at herr
          simp only [Bool.false_eq_true, if_false] at herr
          subst herr
          cases ov
          all_goals (
            go_wp2_with fail
            go_roundg (gk - 1)
            case measure => have := Hj.out; omega
            case rel => exact ⟨j + 1, by have := Hj.out; omega, by rw [Hrel.out.2.2, hn]; rfl, by go_num, Hrel.out.1, Hrel.out.2.1⟩)
        · rw [hn] at herr
          simp only [if_true] at herr
          obtain ⟨g9, rfl⟩ := herr
          cases ov
          all_goals (
            go_wp2_with fail
            go_roundg (gk - 1)
            case measure => have := Hj.out; omega
            case rel => exact ⟨j + 1, by have := Hj.out; omega, by rw [Hrel.out.2.2, hn]; rfl, by go_num, Hrel.out.1, Hrel.out.2.1⟩)
    · have hje : j = ops.length := by have := Hj.out; omega
      have hts : ops.take j = ops := by rw [hje, List.take_length]
      have hmw : HasMap wr bw (S.puts k t v) := by
        have h9 := Hmw.out
        rw [hts] at h9
        show HasMap wr bw (((openCells S.cfg.vs t (S.least k)).map (keyed k)).map (S.putRow v))
        rw [Hops.out]
        exact h9
      have hov : overL S v k (ops.take j) = S.over k t v := by
        rw [hts]
        show _ = (((openCells S.cfg.vs t (S.least k)).map (keyed k)).any _)
        rw [Hops.out]
        rfl
      have hem : (S.openL k t).isEmpty = decide (ops.length = 0) := by
        show ((openCells S.cfg.vs t (S.least k)).map (keyed k)).isEmpty = _
        rw [Hops.out]
        cases ops <;> simp
      have hev := S.event_go k t v full hk1 hk2 ht ht2 (by rw [HoE.out]; exact Hd.out)
      rw [hem] at hev
      have hbr : Below w.heap.size w wr := Below.chain Hb5.out Hch.out (by omega) (fun x hx => by rw [List.mem_singleton.1 hx]; omega)
      have hm := Hh.out.below hbr
      have hnb : B.bt ≠ bw := fun e => by have := Hh.out.lt B.bt (by rw [Hh.out.there.lb]; simp); omega
      obtain ⟨_, _, _, _, c12, _, _, _, _, _, c18, c19, c20, c21, _⟩ := hm.obj.cells
      have rf := frozen_blk hm.obj.obj
      have hcn := Hcn.out
      have hc0 := Hh.out.inv.cnt
      have HM := Lib.hid hm
      have Hmw2 := Lib.hid hmw
      have Hev := Lib.hid hev
      have Hbr := Lib.hid hbr
      have Hcn2 := Lib.hid (And.intro hcn hc0)
      have b1 : -9223372036854775808 ≤ S.cnt.t + 1 ∧ S.cnt.t + 1 ≤ 9223372036854775807 := by omega
      have b2 : -9223372036854775808 ≤ S.cnt.l + 1 ∧ S.cnt.l + 1 ≤ 9223372036854775807 := by omega
      have b3 : -9223372036854775808 ≤ S.cnt.o + 1 ∧ S.cnt.o + 1 ≤ 9223372036854775807 := by omega
      have b4 : -9223372036854775808 ≤ S.cnt.f + 1 ∧ S.cnt.f + 1 ≤ 9223372036854775807 := by omega
      clear hm hmw hts hem hbr hcn hc0 hev hlt
      rw [hov]
      generalize hlE : S.late k t = lt at *
      generalize hoE : S.over k t v = ov at *
      have HlE := Lib.hid hlE
      have HoE2 := Lib.hid hoE
      clear hlE hoE hov
      cases full
      · cases lt
        · cases ov
          · have hfin : S.event false k t v false = (S.taken k t v, 1, 0) := by rw [Hev.out]; rfl
            have Hfin := Lib.hid hfin
            clear hfin
            go_wp2_with fail
            have hch1 : Chg [B.mp] wr (wr.setCell ⟨B.mp, 18, none⟩ (.int .i64 (S.cnt.t + 1))) := Chg.set wr (a := ⟨B.mp, 18, none⟩) (by simp) _
            refine (mcopy_rows B.bt bw S.L (S.puts k t v) _ HM.out.cntT.1.there.map (Hmw2.out.keep (hch1.block bw Hmw2.out.lt (by simp; omega))) hnb Hh.out.inv.rise (by rw [Mst.puts_cells]; exact Mst.openL_nodup Hh.out.inv k ht ht2)).mono ?_
            rintro e w9 ⟨rfl, hm9, hc9⟩
            go_wp2_with fail
            go_ret2
            rw [Hfin.out]
            exact ⟨rfl, HM.out.cntT.1.mapped (S' := S.taken k t v) hm9 hc9.size (fun g hg hn => hc9.block g hg (by simpa using hn)) rfl (Hh.out.inv.taken hk1 hk2 ht ht2 hv), ((Turn.of_below B Hbr.out).trans HM.out.cntT.2).trans (Turn.of_chg hc9 (fun g hg => by rw [List.mem_singleton.1 hg, Hh.out.there.lb]; simp))⟩
          · have hfin : S.event false k t v false = (S.counts { S.cnt with o := S.cnt.o + 1 }, 3, 0) := by rw [Hev.out]; rfl
            have Hfin := Lib.hid hfin
            clear hfin
            go_wp2_with fail
            go_ret2
            rw [Hfin.out]
            exact ⟨rfl, HM.out.cntO.1, (Turn.of_below B Hbr.out).trans HM.out.cntO.2⟩
        · have hfin : S.event false k t v false = (S.counts { S.cnt with l := S.cnt.l + 1 }, 2, 0) := by rw [Hev.out]; rfl
          have Hfin := Lib.hid hfin
          clear hfin
          go_wp2_with fail
          go_ret2
          rw [Hfin.out]
          exact ⟨rfl, HM.out.cntL.1, (Turn.of_below B Hbr.out).trans HM.out.cntL.2⟩
      · cases lt
        · cases ov
          · by_cases hz : ops.length = 0
            · have hfin : S.event false k t v true = (S, 0, 51) := by rw [Hev.out, hz]; rfl
              have Hfin := Lib.hid hfin
              have hzb : ((ops.length : Int) == 0) = true := by rw [hz]; rfl
              clear hfin hz
              go_wp2_with fail
              go_ret2
              rw [Hfin.out]
              exact ⟨rfl, HM.out, Turn.of_below B Hbr.out⟩
            · have hfin : S.event false k t v true = (S.counts { S.cnt with f := S.cnt.f + 1 }, 4, 0) := by rw [Hev.out, decide_eq_false hz]; rfl
              have Hfin := Lib.hid hfin
              have hzb : ((ops.length : Int) == 0) = false := by rw [beq_eq_false_iff_ne]; omega
              clear hfin hz
              go_wp2_with fail
              go_ret2
              rw [Hfin.out]
              exact ⟨rfl, HM.out.cntF.1, (Turn.of_below B Hbr.out).trans HM.out.cntF.2⟩
          · have hfin : S.event false k t v true = (S, 0, 51) := by rw [Hev.out]; rfl
            have Hfin := Lib.hid hfin
            clear hfin
            go_wp2_with fail
            go_ret2
            rw [Hfin.out]
            exact ⟨rfl, HM.out, Turn.of_below B Hbr.out⟩
        · have hfin : S.event false k t v true = (S, 0, 51) := by rw [Hev.out]; rfl
          have Hfin := Lib.hid hfin
          clear hfin
          go_wp2_with fail
          go_ret2
          rw [Hfin.out]
          exact ⟨rfl, HM.out, Turn.of_below B Hbr.out⟩

/-- Event, whatever it is handed. -/
theorem event_any {w : World} {B : MB} {S : Mst} (h : IsModel w B S) (mk full : Bool) (k : ByteArray) (t v : Int) (hk : k.size ≤ maxLen) (hv : is64 v) (hmax : S.L.length ≤ 100000000) (hcn : S.cnt.t ≤ 100000000 ∧ S.cnt.l ≤ 100000000 ∧ S.cnt.o ≤ 100000000 ∧ S.cnt.f ≤ 100000000) :
    Calls Try.prog 10 #[.pointer (some ⟨B.mp, 0, none⟩), itemV mk k t v, .bool full] w fun e w' => e = .returned (.tuple #[.int .i64 (S.event mk k t v full).2.1, .int .i64 (S.event mk k t v full).2.2]) ∧ IsModel w' B (S.event mk k t v full).1 ∧ Turn w w' B B := by
  have hbad : ∀ x, itemErr mk k t = some x → S.event mk k t v full = (S, 0, x) := by
    intro x hx
    unfold itemErr at hx
    unfold Mst.event
    split at hx
    · rw [if_pos (by assumption)]; injection hx with e; rw [e]
    · rw [if_neg (by assumption)]
      split at hx
      · rw [if_pos (by assumption)]; injection hx with e; rw [e]
      · rw [if_neg (by assumption)]
        split at hx
        · rw [if_pos (by assumption)]; injection hx with e; rw [e]
        · cases hx
  cases he : itemErr mk k t with
  | some x =>
    rw [hbad x he]
    refine (event_item B mk full k t v w x he hk).mono ?_
    rintro e w' ⟨he, hb⟩
    exact ⟨he, h.below hb, Turn.of_below B hb⟩
  | none =>
    have hmk : mk = false := by
      cases mk with
      | false => rfl
      | true => simp [itemErr] at he
    subst hmk
    have h1 : ¬ (k.size < 1 ∨ 32 < k.size) := fun h1 => by unfold itemErr at he; rw [if_neg (by simp), if_pos h1] at he; cases he
    have h2 : ¬ (t < -1152921504606846976 ∨ 1152921504606846976 < t) := fun h2 => by unfold itemErr at he; rw [if_neg (by simp), if_neg h1, if_pos h2] at he; cases he
    cases hd : S.dueOf (oprK k S.cfg.op) with
    | none => exact event_main h full k t v (by omega) (by omega) (by omega) (by omega) hv hmax hcn hd
    | some d =>
      have hev : S.event false k t v full = (S, 0, 53) := by
        unfold Mst.event
        rw [if_neg (by simp), if_neg h1, if_neg h2, hd]
        rfl
      rw [hev]
      refine (event_due h full k t v (by omega) (by omega) (by omega) (by omega) hmax (by rw [hd]; rfl)).mono ?_
      rintro e w' ⟨he, hb⟩
      exact ⟨he, h.below hb, Turn.of_below B hb⟩
end Go.Proofs.Ytaicecnfodhlcaa
