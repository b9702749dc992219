/- Event: what it does to the state. -/
import Derived.Test.YtaicecnfodhlcaaMMarkW
set_option linter.unusedVariables false
set_option linter.unusedSimpArgs false
namespace Go.Proofs.Ytaicecnfodhlcaa
open Go.RowKit Go.Deep

abbrev keyed (k : ByteArray) (c : Cell) : Cell := ⟨c.v, k, c.s⟩
/-- The marks of a key's operator: the least. -/
def Mst.least (S : Mst) (k : ByteArray) : Int := leastOf (S.ms.getD (oprK k S.cfg.op).toNat [])
/-- The cells that an event is written into. -/
def Mst.openL (S : Mst) (k : ByteArray) (t : Int) : List Cell := (openCells S.cfg.vs t (S.least k)).map (keyed k)
def putZ (a : Ag) (v : Int) : Ag := (putA a v).getD ⟨0, 0, 0, 0⟩
abbrev Mst.putRow (S : Mst) (v : Int) (c : Cell) : Rw := ⟨c, putZ (getA S.L c) v⟩
def Mst.puts (S : Mst) (k : ByteArray) (t v : Int) : List Rw := (S.openL k t).map (S.putRow v)
def Mst.over (S : Mst) (k : ByteArray) (t v : Int) : Bool := (S.openL k t).any fun c => (putA (getA S.L c) v).isNone
def Mst.late (S : Mst) (k : ByteArray) (t : Int) : Bool := isLate S.cfg.vs t (S.least k)
abbrev Mst.taken (S : Mst) (k : ByteArray) (t v : Int) : Mst := { S with cnt := { S.cnt with t := S.cnt.t + 1 }, L := putRows S.L (S.puts k t v) }
abbrev Mst.counts (S : Mst) (c : Cnt) : Mst := { S with cnt := c }
/-- An event: the state behind it, its fate, what is told. -/
def Mst.event (S : Mst) (mk : Bool) (k : ByteArray) (t v : Int) (full : Bool) : Mst × Int × Int :=
  if mk = true then (S, 0, 1)
  else if k.size < 1 ∨ 32 < k.size then (S, 0, 21)
  else if t < -1152921504606846976 ∨ 1152921504606846976 < t then (S, 0, 22)
  else if (S.dueOf (oprK k S.cfg.op)).isSome = true then (S, 0, 53)
  else if (full && (S.late k t || S.over k t v || (S.openL k t).isEmpty)) = true then (S, 0, 51)
  else if S.late k t = true then (S.counts { S.cnt with l := S.cnt.l + 1 }, 2, 0)
  else if S.over k t v = true then (S.counts { S.cnt with o := S.cnt.o + 1 }, 3, 0)
  else if full = true then (S.counts { S.cnt with f := S.cnt.f + 1 }, 4, 0)
  else (S.taken k t v, 1, 0)

theorem starts_nodup {v : View} (hv : v.ok = true) (t : Int) : (v.starts t).Nodup := by
  have h1 := (View.ok_iff v).1 hv
  unfold View.starts
  have h2 : (List.range (v.cnt t)).Nodup := List.nodup_range
  unfold List.Nodup at *
  rw [List.pairwise_map]
  refine h2.imp fun {i j} h e => h ?_
  have h2 : ((v.cnt t : Int) - 1 - i) * v.slide = ((v.cnt t : Int) - 1 - j) * v.slide := by omega
  have h3 := Int.eq_of_mul_eq_mul_right (by omega : v.slide ≠ 0) h2
  omega
theorem openN_nodup {vs : List View} (hv : ∀ v ∈ vs, v.ok = true) (t m : Int) : ∀ n, n ≤ vs.length → (openN vs t m n).Nodup ∧ ∀ c ∈ openN vs t m n, ∃ i, i < n ∧ c.v = (i : Int)
  | 0, _ => by simp [openN]
  | n + 1, hn => by
    obtain ⟨h1, h2⟩ := openN_nodup hv t m n (by omega)
    have hmem : ∀ c ∈ viewCells vs t m n, c.v = (n : Int) := by
      intro c hc
      obtain ⟨s, _, rfl⟩ := List.mem_map.1 hc
      rfl
    rw [openN_succ]
    constructor
    · rw [List.nodup_append]
      refine ⟨h1, ?_, ?_⟩
      · unfold viewCells
        have hg : vs.getD n default = vs[n]'(by omega) := by simp [show n < vs.length by omega]
        rw [hg]
        have hs : ((vs[n]'(by omega)).opens t m).Nodup := (starts_nodup (hv _ (List.getElem_mem _)) t).sublist (by unfold View.opens; exact List.filter_sublist)
        unfold List.Nodup at *
        rw [List.pairwise_map]
        exact hs.imp fun h e => h (by injection e)
      · intro a ha b hb e
        subst e
        obtain ⟨i, hi, e1⟩ := h2 a ha
        have e2 := hmem a hb
        omega
    · intro c hc
      rcases List.mem_append.1 hc with h | h
      · obtain ⟨i, hi, e⟩ := h2 c h
        exact ⟨i, by omega, e⟩
      · exact ⟨n, by omega, hmem c h⟩
theorem openN_cells {vs : List View} (hv : ∀ v ∈ vs, v.ok = true) {t : Int} (ht : -1152921504606846976 ≤ t) (ht2 : t ≤ 1152921504606846976) (m : Int) {n : Nat} (hn : n ≤ vs.length) : ∀ c ∈ openN vs t m n, c.k = ByteArray.empty ∧ -2305843009213693952 ≤ c.s ∧ c.s ≤ 2305843009213693952 := by
  intro c hc
  unfold openN at hc
  obtain ⟨i, hi, h⟩ := List.mem_flatMap.1 hc
  have hi := List.mem_range.1 hi
  unfold viewCells at h
  obtain ⟨s, hs, rfl⟩ := List.mem_map.1 h
  have hg : vs.getD i default = vs[i]'(by omega) := by simp [show i < vs.length by omega]
  rw [hg] at hs
  have hs2 : s ∈ (vs[i]'(by omega)).starts t := (List.mem_filter.1 hs).1
  have := starts_bounds (hv _ (List.getElem_mem (by omega))) ht ht2 s hs2
  exact ⟨rfl, by show _ ≤ s; omega, by show s ≤ _; omega⟩
theorem Mst.openL_nodup {S : Mst} (h : S.Inv) (k : ByteArray) {t : Int} (ht : -1152921504606846976 ≤ t) (ht2 : t ≤ 1152921504606846976) : (S.openL k t).Nodup := by
  unfold Mst.openL
  have h1 := (openN_nodup h.cfg.vok t (S.least k) S.cfg.vs.length (Nat.le_refl _)).1
  have h2 := openN_cells h.cfg.vok ht ht2 (S.least k) (Nat.le_refl S.cfg.vs.length)
  have h1' : (openCells S.cfg.vs t (S.least k)).Nodup := h1
  unfold List.Nodup at *
  rw [List.pairwise_map]
  refine List.Pairwise.imp_of_mem (fun {a b} ha hb hab e => hab ?_) h1'
  obtain ⟨av, ak, as'⟩ := a
  obtain ⟨bv, bk, bs'⟩ := b
  have ea := (h2 _ ha).1
  have eb := (h2 _ hb).1
  simp only at ea eb
  simp only [keyed, Cell.mk.injEq, true_and] at e
  rw [ea, eb, e.1, e.2]
theorem Mst.openL_ok {S : Mst} (h : S.Inv) {k : ByteArray} (hk1 : 1 ≤ k.size) (hk2 : k.size ≤ 32) {t : Int} (ht : -1152921504606846976 ≤ t) (ht2 : t ≤ 1152921504606846976) : ∀ c ∈ S.openL k t, cellOk S.cfg.vs c ∧ c.k = k := by
  intro c hc
  unfold Mst.openL at hc
  obtain ⟨d, hd, rfl⟩ := List.mem_map.1 hc
  obtain ⟨i, hi, e⟩ := (openN_nodup h.cfg.vok t (S.least k) S.cfg.vs.length (Nat.le_refl _)).2 d hd
  have h2 := openN_cells h.cfg.vok ht ht2 (S.least k) (Nat.le_refl S.cfg.vs.length) d hd
  exact ⟨⟨i, hi, e, hk1, hk2, h2.2.1, h2.2.2⟩, rfl⟩
theorem Mst.openL_len {S : Mst} (h : S.Inv) (k : ByteArray) (t : Int) : (S.openL k t).length ≤ 256 := by
  unfold Mst.openL
  rw [List.length_map]
  have h1 := openN_le h.cfg.vok t (S.least k) S.cfg.vs.length (Nat.le_refl _)
  have h2 := h.cfg.vhi
  have h3 : (openCells S.cfg.vs t (S.least k)).length ≤ 64 * S.cfg.vs.length := h1
  omega
theorem putZ_ok {a : Ag} {v : Int} (ha : a.Ok) (hv : is64 v) : (putZ a v).Ok := by
  unfold putZ
  cases h : putA a v with
  | none => exact ag_ok (by unfold is64; omega) (by unfold is64; omega) (by unfold is64; omega) (by unfold is64; omega)
  | some b => exact putA_ok ha hv h
theorem Mst.puts_cells (S : Mst) (k : ByteArray) (t v : Int) : (S.puts k t v).map (·.cell) = S.openL k t := by
  unfold Mst.puts
  rw [List.map_map]
  exact List.map_id _
theorem Mst.Inv.taken {S : Mst} (h : S.Inv) {k : ByteArray} (hk1 : 1 ≤ k.size) (hk2 : k.size ≤ 32) {t v : Int} (ht : -1152921504606846976 ≤ t) (ht2 : t ≤ 1152921504606846976) (hv : is64 v) : (S.taken k t v).Inv := by
  refine ⟨h.cfg, h.msl, h.mrow, h.tdl, putRows_rise h.rise (by rw [Mst.puts_cells]; exact Mst.openL_nodup h k ht ht2), ?_, h.now, h.old, h.slk, h.sok, ⟨by have := h.cnt.1; show 0 ≤ S.cnt.t + 1; omega, h.cnt.2⟩, h.tms, h.tok⟩
  intro r hr
  rcases (mem_putRows r).1 hr with h1 | ⟨h1, _⟩
  · unfold Mst.puts at h1
    obtain ⟨c, hc, rfl⟩ := List.mem_map.1 h1
    exact ⟨(Mst.openL_ok h hk1 hk2 ht ht2 c hc).1, putZ_ok (getA_ok (fun r hr => (h.may r hr).2) c) hv⟩
  · exact h.may r h1
/-- What has been written of the first cells. -/
def overL (S : Mst) (v : Int) (k : ByteArray) (cs : List Cell) : Bool := (cs.map (keyed k)).any fun c => (putA (getA S.L c) v).isNone
def rowsL (S : Mst) (v : Int) (k : ByteArray) (cs : List Cell) : List Rw := (cs.map (keyed k)).map (S.putRow v)
theorem overL_snoc (S : Mst) (v : Int) (k : ByteArray) (cs : List Cell) (c : Cell) : overL S v k (cs ++ [c]) = (overL S v k cs || (putA (getA S.L (keyed k c)) v).isNone) := by
  simp [overL]
theorem rowsL_snoc (S : Mst) (v : Int) (k : ByteArray) (cs : List Cell) (c : Cell) : rowsL S v k (cs ++ [c]) = rowsL S v k cs ++ [S.putRow v (keyed k c)] := by
  simp [rowsL]
theorem rowsL_cells (S : Mst) (v : Int) (k : ByteArray) (cs : List Cell) : (rowsL S v k cs).map (·.cell) = cs.map (keyed k) := by
  unfold rowsL
  rw [List.map_map]
  exact List.map_id _
/-- A cell that is not in a map of rows yet is written. -/
theorem HasMap.put_new {w : World} {b : Nat} {L : List Rw} (h : HasMap w b L) (xv : Int) (xk : ByteArray) (xs : Int) (a : Ag) (hc : (⟨xv, xk, xs⟩ : Cell) ∉ L.map (·.cell)) :
    ∃ w', (Instr.mapUpdate 83 (.map (some b)) (.agg #[.int .i64 xv, .string xk, .int .i64 xs]) (aggV a.c a.s a.mn a.mx)).run Try.prog w = .ok () w' ∧ HasMap w' b (L ++ [⟨⟨xv, xk, xs⟩, a⟩]) ∧ Chg [b] w w' ∧ w'.heap.size = w.heap.size := by
  obtain ⟨m, hm, hp⟩ := h
  obtain ⟨w', h1, h2, h3, h4⟩ := MapIs.update (P := Try.prog) keyCell Try.underlying83 hm ⟨xv, xk, xs⟩ (aggV a.c a.s a.mn a.mx)
  refine ⟨w', h1, ⟨_, h2, ?_⟩, Chg.of_grown h3, h4⟩
  have hn : (⟨xv, xk, xs⟩ : Cell) ∉ m.map (·.1) := fun h => hc ((perm_keys hp).mem_iff.1 h)
  unfold mPut
  rw [if_neg hn, List.map_append]
  exact hp.append_right _
end Go.Proofs.Ytaicecnfodhlcaa
