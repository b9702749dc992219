/- ModelGreat: the plain law: so many cells, in order; pins; kills; gets. -/
import Derived.Test.YtaicecnfodhlcaaJ21
import Derived.Test.YtaicecnfodhlcaaJ14
import Derived.Test.YtaicecnfodhlcaaJ20
import Derived.Laws.BytesArg
import Derived.Deep.CutBlock
import Derived.Deep.DeepCutAuto
import Derived.Test.YtaicecnfodhlcaaJ02
set_option linter.unusedVariables false
set_option linter.unusedSimpArgs false
namespace Go.Proofs.Ytaicecnfodhlcaa
open Go.RowKit Go.Deep

/-! ### keys -/
def kG (n : Nat) : ByteArray := ⟨#[UInt8.ofNat (97 + n / 400 % 20), UInt8.ofNat (97 + n / 20 % 20), UInt8.ofNat (97 + n % 20)]⟩
theorem kG_size (n : Nat) : (kG n).size = 3 := rfl
theorem u8_lt {x y : Nat} (hx : x < 256) (hy : y < 256) : (UInt8.ofNat x < UInt8.ofNat y) ↔ x < y := by
  rw [UInt8.lt_iff_toNat_lt]
  simp [UInt8.toNat_ofNat, Nat.mod_eq_of_lt hx, Nat.mod_eq_of_lt hy]
theorem cmp3 {x0 x1 x2 y0 y1 y2 : Nat} (hx0 : x0 < 256) (hx1 : x1 < 256) (hx2 : x2 < 256) (hy0 : y0 < 256) (hy1 : y1 < 256) (hy2 : y2 < 256) (h : x0 < y0 ∨ (x0 = y0 ∧ (x1 < y1 ∨ (x1 = y1 ∧ x2 < y2)))) :
    Lib.compareBytes [UInt8.ofNat x0, UInt8.ofNat x1, UInt8.ofNat x2] [UInt8.ofNat y0, UInt8.ofNat y1, UInt8.ofNat y2] = -1 := by
  simp only [Lib.compareBytes]
  rcases h with h | ⟨rfl, h⟩
  · rw [if_pos ((u8_lt hx0 hy0).2 h)]
  · rw [if_neg (fun e => by have := (u8_lt hx0 hy0).1 e; omega), if_neg (fun e => by have := (u8_lt hy0 hx0).1 e; omega)]
    rcases h with h | ⟨rfl, h⟩
    · rw [if_pos ((u8_lt hx1 hy1).2 h)]
    · rw [if_neg (fun e => by have := (u8_lt hx1 hy1).1 e; omega), if_neg (fun e => by have := (u8_lt hy1 hx1).1 e; omega), if_pos ((u8_lt hx2 hy2).2 h)]
theorem kG_lt {a b : Nat} (h : a < b) (hb : b < 700) : bcmp (kG a) (kG b) = -1 := by
  show Lib.compareBytes [_, _, _] [_, _, _] = -1
  exact cmp3 (by omega) (by omega) (by omega) (by omega) (by omega) (by omega) (by omega)

/-! ### rows -/
def gC (n : Nat) : Cell := ⟨0, kG n, 0⟩
def gR (n : Nat) : Rw := ⟨gC n, ⟨1, n, n, n⟩⟩
def gL (a b : Nat) : List Rw := (List.range (b - a)).map fun j => gR (a + j)
theorem gC_lt {a b : Nat} (h : a < b) (hb : b < 700) : ccmp (gC a) (gC b) < 0 := by
  unfold ccmp gC
  have e : icmp 0 0 = 0 := rfl
  dsimp only
  rw [e, if_pos rfl, kG_lt h hb, if_neg (by decide)]
  decide
theorem gC_inj {a b : Nat} (ha : a < 700) (hb : b < 700) (h : gC a = gC b) : a = b := by
  rcases Nat.lt_trichotomy a b with h1 | h1 | h1
  · have := gC_lt h1 hb; rw [h, tot_cell.self] at this; omega
  · exact h1
  · have := gC_lt h1 ha; rw [h, tot_cell.self] at this; omega
theorem gL_len (a b : Nat) : (gL a b).length = b - a := by simp [gL]
theorem gL_get {a b j : Nat} (h : j < (gL a b).length) : (gL a b)[j] = gR (a + j) := by simp [gL]
theorem gL_mem {a b : Nat} {r : Rw} : r ∈ gL a b ↔ ∃ k, a ≤ k ∧ k < b ∧ r = gR k := by
  unfold gL
  rw [List.mem_map]
  constructor
  · rintro ⟨j, hj, rfl⟩
    have := List.mem_range.1 hj
    exact ⟨a + j, by omega, by omega, rfl⟩
  · rintro ⟨k, h1, h2, rfl⟩
    exact ⟨k - a, List.mem_range.2 (by omega), by rw [show a + (k - a) = k by omega]⟩
theorem gL_rise {a b : Nat} (hb : b ≤ 700) : Rise ((gL a b).map (·.cell)) := by
  unfold Rise gL
  rw [List.map_map, List.pairwise_map]
  exact (List.pairwise_lt_range (n := b - a)).imp_of_mem fun {i j} hi hj h => gC_lt (by omega) (by have := List.mem_range.1 hj; omega)
theorem gL_cons {a b : Nat} (h : a < b) : gL a b = gR a :: gL (a + 1) b := by
  unfold gL
  obtain ⟨d, hd⟩ : ∃ d, b - a = d + 1 := ⟨b - a - 1, by omega⟩
  rw [hd, show b - (a + 1) = d by omega, List.range_succ_eq_map, List.map_cons, List.map_map]
  congr 1
  apply List.map_congr_left
  intro j _
  show gR (a + (j + 1)) = gR (a + 1 + j)
  rw [show a + (j + 1) = a + 1 + j by omega]
theorem gL_nil (a : Nat) : gL a a = [] := by simp [gL]
theorem rise_extG {xs ys : List Rw} (hx : Rise (xs.map (·.cell))) (hy : Rise (ys.map (·.cell))) (h : ∀ r, r ∈ xs ↔ r ∈ ys) : xs = ys := by
  have nx := hx.nodup
  have ny := hy.nodup
  unfold List.Nodup at nx ny
  rw [List.pairwise_map] at nx ny
  have nx' : xs.Nodup := nx.imp fun h e => h (by rw [e])
  have ny' : ys.Nodup := ny.imp fun h e => h (by rw [e])
  have hp : xs.Perm ys := (List.perm_ext_iff_of_nodup nx' ny').2 h
  unfold Rise at hx hy
  rw [List.pairwise_map] at hx hy
  exact List.Perm.eq_of_pairwise (le := fun x y : Rw => ccmp x.cell y.cell < 0) (fun a b _ _ h1 h2 => by have := tot_cell.anti a.cell b.cell; omega) hx hy hp
theorem gL_not {a b k : Nat} (hk : k < a) (hb : b ≤ 700) (ha : a ≤ b) : gC k ∉ (gL a b).map (·.cell) := fun h => by
  obtain ⟨r, hr, e⟩ := List.mem_map.1 h
  obtain ⟨k', h1, h2, rfl⟩ := gL_mem.1 hr
  have := gC_inj (by omega) (by omega) (show gC k' = gC k from e)
  omega
theorem gL_put {k n : Nat} (h : k < n) (hn : n ≤ 700) : putRows (gL (k + 1) n) [gR k] = gL k n := by
  refine rise_extG (putRows_rise (gL_rise hn) (by simp)) (gL_rise hn) fun r => ?_
  rw [mem_putRows, gL_cons h]
  simp only [List.mem_cons, List.not_mem_nil, or_false]
  constructor
  · rintro (h1 | ⟨h1, _⟩)
    · exact .inl h1
    · exact .inr h1
  · rintro (h1 | h1)
    · exact .inl h1
    · refine .inr ⟨h1, fun h2 => ?_⟩
      have e : r.cell = gC k := by simpa [gR] using h2
      exact gL_not (k := k) (a := k + 1) (b := n) (by omega) hn (by omega) (by rw [← e]; exact List.mem_map.2 ⟨r, h1, rfl⟩)
theorem gL_cut {k n : Nat} (h : k < n) (hn : n ≤ 700) : ((gL k n).filter fun r => decide (r.cell ≠ gC k)) = gL (k + 1) n := by
  rw [gL_cons h, List.filter_cons_of_neg (by simp [gR])]
  rw [List.filter_eq_self]
  intro r hr
  rw [decide_eq_true_eq]
  intro e
  exact gL_not (k := k) (a := k + 1) (b := n) (by omega) hn (by omega) (by rw [← e]; exact List.mem_map.2 ⟨r, hr, rfl⟩)

/-! ### events -/
theorem g_open : openCells c0.vs 5 noMark = [⟨0, ByteArray.empty, 0⟩] := by kernel_rfl
theorem g_late : isLate c0.vs 5 noMark = false := by kernel_rfl
/-- Behind j events and the pins of the first i. -/
structure GI (n S i j : Nat) (T : Mst) : Prop where
  cfg : T.cfg = c0
  ms : T.ms = [[noMark]]
  L : T.L = gL (n - j) n
  cnt : T.cnt = ⟨j, 0, 0, 0⟩
  now : T.now ≤ i + 1
  seals : ∀ e L, T.seals e = some L → gR (n - 1) ∈ L ∧ L.length ≤ n
  told : ∀ l ∈ T.told, l = []
  holds : ∀ s e, T.holds s e = true → 1 ≤ i ∧ s ≤ ((1 + (i - 1) * S / n : Nat) : Int)
theorem GI.new (n S : Nat) : GI n S 0 0 (Mst.new c0) :=
  ⟨rfl, rfl, by rw [show n - 0 = n from rfl, gL_nil]; rfl, rfl, Int.le_refl _, fun e L h => (nomatch h), fun l hl => List.eq_of_mem_replicate hl, fun s e h => (nomatch h)⟩
section
variable {n S i j : Nat} {T : Mst}
theorem GI.least (h : GI n S i j T) (k : ByteArray) : T.least k = noMark := by
  unfold Mst.least
  rw [h.cfg, show c0.op = 1 from rfl, opr1, h.ms]
  rfl
theorem GI.due (h : GI n S i j T) : T.dueOf 0 = none := by
  unfold Mst.dueOf
  rw [List.filter_eq_nil_iff.2]
  · rfl
  · intro c hc
    rw [h.L] at hc
    obtain ⟨r, hr, rfl⟩ := List.mem_map.1 hc
    obtain ⟨k, _, _, rfl⟩ := gL_mem.1 hr
    unfold Mst.dueP
    rw [h.ms, h.cfg]
    have e : (c0.vs.getD (gR k).cell.v.toNat default).shut (gR k).cell.s (leastOf (([[noMark]] : List (List Int)).getD (0 : Int).toNat [])) = false := by
      show (c0.vs.getD 0 default).shut 0 (leastOf (([[noMark]] : List (List Int)).getD 0 [])) = false
      decide
    rw [e, Bool.and_false]
    decide
theorem GI.event (h : GI n S i i T) (hi : i < n) (hn : n ≤ 700) : ∃ T', T.event false (kG (n - 1 - i)) 5 ((n - 1 - i : Nat) : Int) false = (T', 1, 0) ∧ GI n S i (i + 1) T' := by
  have hd : T.dueOf (oprK (kG (n - 1 - i)) T.cfg.op) = none := by
    rw [h.cfg, show c0.op = 1 from rfl, opr1]
    exact h.due
  have hop : T.openL (kG (n - 1 - i)) 5 = [gC (n - 1 - i)] := by
    unfold Mst.openL
    rw [h.least, h.cfg, g_open]
    rfl
  have hget : getA T.L (gC (n - 1 - i)) = ⟨0, 0, 0, 0⟩ := by
    rw [h.L]
    exact getA_no (gL_not (by omega) hn (by omega))
  have hlate : T.late (kG (n - 1 - i)) 5 = false := by
    unfold Mst.late
    rw [h.least, h.cfg]
    exact g_late
  have hover : T.over (kG (n - 1 - i)) 5 ((n - 1 - i : Nat) : Int) = false := by
    unfold Mst.over
    rw [hop]
    show ((putA (getA T.L (gC (n - 1 - i))) _).isNone || false) = false
    rw [hget]
    rfl
  have hputs : T.puts (kG (n - 1 - i)) 5 ((n - 1 - i : Nat) : Int) = [gR (n - 1 - i)] := by
    unfold Mst.puts
    rw [hop]
    show [(⟨gC (n - 1 - i), putZ (getA T.L (gC (n - 1 - i))) _⟩ : Rw)] = _
    rw [hget]
    rfl
  refine ⟨T.taken (kG (n - 1 - i)) 5 ((n - 1 - i : Nat) : Int), ?_, h.cfg, h.ms, ?_, ?_, h.now, h.seals, h.told, h.holds⟩
  · rw [Mst.event_go _ _ _ _ _ (by rw [kG_size]; omega) (by rw [kG_size]; omega) (by decide) (by decide) hd, hlate, hover]
    rfl
  · show putRows T.L (T.puts _ _ _) = _
    rw [hputs, h.L, show n - i = n - 1 - i + 1 by omega, show n - (i + 1) = n - 1 - i by omega]
    exact gL_put (by omega) hn
  · show (⟨T.cnt.t + 1, T.cnt.l, T.cnt.o, T.cnt.f⟩ : Cnt) = _
    rw [h.cnt]
    rfl
abbrev zG : Cell := ⟨0, ⟨#[]⟩, 0⟩
theorem g_chkP : chkRq ⟨4, 0, 0, [], zG, zG, 0⟩ = 0 := by kernel_rfl
theorem g_chkS : chkRq ⟨3, 0, 0, [], zG, ⟨1, ⟨#[]⟩, 0⟩, 256⟩ = 0 := by kernel_rfl
theorem GI.free (h : GI n S i j T) {s : Int} (hs : i = 0 ∨ ((1 + (i - 1) * S / n : Nat) : Int) < s) : T.heldN s = 0 := by
  unfold Mst.heldN
  rw [List.length_eq_zero_iff, List.filter_eq_nil_iff]
  intro e _ he
  have := h.holds s e he
  omega
theorem GI.pin (h : GI n S i (i + 1) T) (hi : i < n) (hn : n ≤ 700) (hS : S ≤ 64) (hs : i = 0 ∨ 1 + (i - 1) * S / n < 1 + i * S / n) : T.ask ((1 + i * S / n : Nat) : Int) ⟨4, 0, 0, [], zG, zG, 0⟩ 0 = (T.pinned ((1 + i * S / n : Nat) : Int), 0, ⟨2, 0, 0, T.now, [], 0, 0, 0, 0, 0, 0⟩) ∧ GI n S (i + 1) (i + 1) (T.pinned ((1 + i * S / n : Nat) : Int)) := by
  have hq : i * S / n < 64 := by
    have h1 : i * S < n * 64 := by
      have h2 : i * S ≤ i * 64 := Nat.mul_le_mul_left _ hS
      omega
    exact Nat.div_lt_of_lt_mul (by omega)
  have hsb : 1 ≤ 1 + i * S / n ∧ 1 + i * S / n ≤ 64 := ⟨Nat.le_add_right _ _, by omega⟩
  have hfr : T.heldN ((1 + i * S / n : Nat) : Int) = 0 := h.free (by omega)
  have hmono : (i - 1) * S / n ≤ i * S / n := Nat.div_le_div_right (Nat.mul_le_mul_right _ (by omega))
  have hpi : T.cfg.pi = 1 := by rw [h.cfg]; rfl
  have hnow := h.now
  refine ⟨?_, h.cfg, h.ms, h.L, h.cnt, ?_, ?_, h.told, ?_⟩
  · generalize (1 + i * S / n) = s at *
    unfold Mst.ask
    rw [if_neg (by omega), g_chkP, if_neg (by simp), if_neg (by simp), if_neg (by simp)]
    unfold Mst.inner
    dsimp only
    rw [if_pos rfl]
    unfold Mst.pin
    rw [hfr, hpi, if_neg (by omega), if_neg (by omega)]
    exact answered_ok
  · show T.now + 1 ≤ _
    omega
  · intro e L he
    have he' : (if e = T.now then some T.L else T.seals e) = some L := he
    split at he'
    · cases he'
      rw [h.L]
      exact ⟨gL_mem.2 ⟨n - 1, by omega, by omega, rfl⟩, by rw [gL_len]; omega⟩
    · exact h.seals e L he'
  · intro s e he
    have he' : (T.holds s e || (decide (s = ((1 + i * S / n : Nat) : Int)) && decide (e = T.now))) = true := he
    refine ⟨by omega, ?_⟩
    rw [show i + 1 - 1 = i from rfl]
    rw [Bool.or_eq_true] at he'
    rcases he' with h1 | h1
    · have := (h.holds s e h1).2
      omega
    · rw [Bool.and_eq_true] at h1
      have := of_decide_eq_true h1.1
      omega
theorem GI.skip (h : GI n S i (i + 1) T) (hi : i ≠ 0) : GI n S (i + 1) (i + 1) T := by
  have hmono : (i - 1) * S / n ≤ i * S / n := Nat.div_le_div_right (Nat.mul_le_mul_right _ (by omega))
  refine ⟨h.cfg, h.ms, h.L, h.cnt, by have := h.now; omega, h.seals, h.told, fun s e he => ⟨by omega, ?_⟩⟩
  rw [show i + 1 - 1 = i from rfl]
  have := (h.holds s e he).2
  omega
/-! ### the scan, the mark -/
theorem gL_scan (a b : Nat) : ((gL a b).filter fun r => scanP zG ⟨1, ⟨#[]⟩, 0⟩ r.cell) = gL a b := by
  rw [List.filter_eq_self]
  intro r hr
  obtain ⟨k, _, _, rfl⟩ := gL_mem.1 hr
  rfl
theorem GI.scan (h : GI n S i n T) (hi : i ≤ 700) : T.ask 1 ⟨3, 0, 0, [], zG, ⟨1, ⟨#[]⟩, 0⟩, 256⟩ 0 = (T.sealed, 0, ⟨1, 0, 0, 0, (gL 0 n).take 256, 0, 0, 0, 0, 0, 0⟩) ∧ GI n S (i + 1) n T.sealed := by
  have hnow := h.now
  have hL := h.L
  rw [Nat.sub_self] at hL
  refine ⟨?_, h.cfg, h.ms, h.L, h.cnt, by show T.now + 1 ≤ _; omega, h.seals, h.told, fun s e he => ?_⟩
  · unfold Mst.ask
    rw [if_neg (by omega), g_chkS, if_neg (by simp), if_neg (by simp), if_neg (by simp)]
    unfold Mst.inner
    dsimp only
    rw [if_neg (by omega), if_neg (by omega), if_neg (by omega), if_neg (by omega)]
    unfold Mst.read Mst.readL
    dsimp only
    rw [if_pos rfl]
    dsimp only
    rw [if_pos rfl, if_pos rfl, if_neg (by omega)]
    unfold scanRows
    rw [hL, gL_scan]
    exact answered_ok
  · have h1 := h.holds s e he
    have hmono : (i - 1) * S / n ≤ (i + 1 - 1) * S / n := Nat.div_le_div_right (Nat.mul_le_mul_right _ (by omega))
    omega
theorem GI.mark (h : GI n S i n T) : T.mark 0 0 10 = (T.marked 0 0 10, 0) := by
  unfold Mst.mark
  rw [h.cfg, if_neg (by decide), if_neg (by decide), h.due]
  rfl
end
/-- Behind the mark, i cells killed. -/
structure GK (n i : Nat) (T0 T : Mst) : Prop where
  cfg : T.cfg = c0
  ms : T.ms = [[10]]
  L : T.L = gL i n
  cnt : T.cnt = T0.cnt
  now : T.now = T0.now
  seals : T.seals = T0.seals
  holds : T.holds = T0.holds
theorem GI.killed {n S i : Nat} {T : Mst} (h : GI n S i n T) : GK n 0 T (T.marked 0 0 10) :=
  ⟨h.cfg, by show T.ms.set 0 (riseL (T.ms.getD 0 []) (0, 10)) = _; rw [h.ms]; decide, by have := h.L; rw [Nat.sub_self] at this; exact this, rfl, rfl, rfl, rfl⟩
section
variable {n i : Nat} {T0 T : Mst}
theorem GK.dueP (h : GK n i T0 T) (k : Nat) : T.dueP 0 (gC k) = true := by
  unfold Mst.dueP
  rw [h.cfg, h.ms]
  have e : (oprK (gC k).k c0.op == 0) = true := by rw [show c0.op = 1 from rfl, opr1]; rfl
  rw [e]
  show (c0.vs.getD 0 default).shut 0 (leastOf (([[10]] : List (List Int)).getD 0 [])) = true
  decide
theorem GK.due (h : GK n i T0 T) (hi : i < n) : T.dueOf 0 = some (gC i) := by
  unfold Mst.dueOf
  rw [h.L, gL_cons hi, List.map_cons]
  show ((gC i :: (gL (i + 1) n).map (·.cell)).filter (T.dueP 0)).head? = _
  rw [List.filter_cons_of_pos (h.dueP i)]
  rfl
theorem GK.has (h : GK n i T0 T) {k : Nat} (hk : i ≤ k) (hn : k < n) : hasC T.L (gC k) = true :=
  hasC_iff.2 (by rw [h.L]; exact List.mem_map.2 ⟨gR k, gL_mem.2 ⟨k, hk, hn, rfl⟩, rfl⟩)
theorem GK.wrong (h : GK n i T0 T) (hi : i + 1 < n) (hn : n ≤ 700) : T.kill (gC (i + 1)) = (T, 53) := by
  have ho : oprK (gC (i + 1)).k T.cfg.op = 0 := by rw [h.cfg, show c0.op = 1 from rfl, opr1]
  unfold Mst.kill
  rw [ho, if_pos (h.has (by omega) hi), if_pos (h.dueP _), h.due (by omega), if_neg]
  intro e
  have := gC_inj (by omega) (by omega) (Option.some.inj e)
  omega
theorem GK.right (h : GK n i T0 T) (hi : i < n) (hn : n ≤ 700) : ∃ T', T.kill (gC i) = (T', 0) ∧ GK n (i + 1) T0 T' := by
  have ho : oprK (gC i).k T.cfg.op = 0 := by rw [h.cfg, show c0.op = 1 from rfl, opr1]
  refine ⟨{ T with L := T.L.filter fun r => decide (r.cell ≠ gC i) }, ?_, h.cfg, h.ms, ?_, h.cnt, h.now, h.seals, h.holds⟩
  · unfold Mst.kill
    rw [ho, if_pos (h.has (Nat.le_refl _) hi), if_pos (h.dueP _), h.due hi, if_pos rfl]
  · show (T.L.filter fun r => decide (r.cell ≠ gC i)) = _
    rw [h.L]
    exact gL_cut hi hn
/-! ### the gets -/
theorem g_same (q : Rq) : sameRq q q = true := by unfold sameRq; simp
theorem g_chkG {e : Int} {k : Nat} (h0 : 0 ≤ e) (h1 : e ≤ 1099511627776) : chkRq ⟨1, 0, e, [gC k], zG, zG, 0⟩ = 0 := by
  have e1 : isSmall e = true := by unfold isSmall; rw [decide_eq_true h0, decide_eq_true h1]; rfl
  have e2 : Rq.own ⟨1, 0, e, [gC k], zG, zG, 0⟩ = ⟨1, 0, e, [gC k], zG, zG, 0⟩ := rfl
  have e3 : cellsE [gC k] = 0 := rfl
  unfold chkRq
  dsimp only
  rw [e2, g_same, e1, e3, if_neg (by decide), if_neg (by decide), if_pos (by decide), if_neg (by simp), if_neg (by simp)]
theorem g_get {T : Mst} (hi : T.Inv) (hs0 : ∀ e L, T.seals e = some L → gR (n - 1) ∈ L) {s e : Int} (hs1 : 1 ≤ s) (hs2 : s ≤ 64) (he1 : 1 ≤ e) (he2 : e < T.now) :
    T.ask s ⟨1, 0, e, [gC (n - 1)], zG, zG, 0⟩ 0 = (T, 0, Rsp.bad 0 33) ∨ T.ask s ⟨1, 0, e, [gC (n - 1)], zG, zG, 0⟩ 0 = (T, 0, ⟨1, 0, 0, 0, [gR (n - 1)], 0, 0, 0, 0, 0, 0⟩) := by
  have hnow := hi.now.2
  have hask : T.ask s ⟨1, 0, e, [gC (n - 1)], zG, zG, 0⟩ 0 = answered 0 (T.read s ⟨1, 0, e, [gC (n - 1)], zG, zG, 0⟩) := by
    unfold Mst.ask
    rw [if_neg (by omega), g_chkG (by omega) (by omega), if_neg (by simp), if_neg (by simp), if_neg (by simp)]
    unfold Mst.inner
    dsimp only
    rw [if_neg (by omega), if_neg (by omega), if_neg (by omega), if_neg (by omega)]
  rw [hask]
  have hr : T.readL s e = none ∨ ∃ L, T.readL s e = some L ∧ T.seals e = some L := by
    unfold Mst.readL
    rw [if_neg (by omega)]
    split
    · cases hL : T.seals e with
      | none => exact .inl rfl
      | some L => exact .inr ⟨L, rfl, rfl⟩
    · exact .inl rfl
  rcases hr with hr | ⟨L, hr, hL⟩
  · left
    unfold Mst.read
    dsimp only
    rw [hr]
    exact answered_bad (by decide)
  · right
    have hg : getA L (gC (n - 1)) = ⟨1, ((n - 1 : Nat) : Int), ((n - 1 : Nat) : Int), ((n - 1 : Nat) : Int)⟩ := getA_mem (hi.sok e L hL).1.nodup (hs0 e L hL)
    unfold Mst.read
    dsimp only
    rw [hr]
    dsimp only
    rw [if_neg (by decide)]
    show answered 0 (T, 0, ⟨1, 0, 0, 0, [(⟨gC (n - 1), getA L (gC (n - 1))⟩ : Rw)], 0, 0, 0, 0, 0, 0⟩) = _
    rw [hg]
    exact answered_ok
end
end Go.Proofs.Ytaicecnfodhlcaa
/- ModelGreat: key; what the model is asked. -/
set_option linter.unusedVariables false
set_option linter.unusedSimpArgs false
namespace Go.Proofs.Ytaicecnfodhlcaa
open Go.RowKit Go.Deep

theorem kG_nums (n : Nat) : strOfNums [(97 : Int) + (n : Int) / 400 % 20, 97 + (n : Int) / 20 % 20, 97 + (n : Int) % 20] = kG n := by
  unfold strOfNums kG
  have e0 : (97 + (n : Int) / 400 % 20).toNat = 97 + n / 400 % 20 := by omega
  have e1 : (97 + (n : Int) / 20 % 20).toNat = 97 + n / 20 % 20 := by omega
  have e2 : (97 + (n : Int) % 20).toNat = 97 + n % 20 := by omega
  simp [e0, e1, e2]
set_option maxRecDepth 100000 in
theorem key_any (n : Nat) (hn : n < 8000) (w : World) : Calls Try.prog 11 #[.int .i64 n] w fun e w' => e = .returned (.string (kG n)) ∧ Below w.heap.size w w' := by
  have hb : (w.alloc (.cells #[.int .u8 (97 + (n : Int) / 400 % 20), .int .u8 (97 + (n : Int) / 20 % 20), .int .u8 (97 + (n : Int) % 20)] 5)).heap[w.heap.size]? = some (.cells #[.int .u8 (97 + (n : Int) / 400 % 20), .int .u8 (97 + (n : Int) / 20 % 20), .int .u8 (97 + (n : Int) % 20)] 5 (0, 0)) := blk_at rfl
  have hcv := run_convert_bytes_arg (P := Try.prog) _ 96 5 Try.underlying96 Try.underlying5 w.heap.size 0 3 3 [(97 : Int) + (n : Int) / 400 % 20, 97 + (n : Int) / 20 % 20, 97 + (n : Int) % 20] rfl (fun i hi => by
    have h := cell_blk hb i
    rw [Nat.zero_add, h]
    match i, hi with
    | 0, _ => rfl
    | 1, _ => rfl
    | 2, _ => rfl) 9 Try.underlying9
  rw [kG_nums] at hcv
  clear hb
  go_enter Try.func11, Try.ntmps11
  go_wp2_with fail
  go_ret
  exact ⟨rfl, (Below.refl _ _).alloc (Nat.le_refl _) _⟩

/-- The sessions' numbers, as the law reckons them. -/
theorem great_div {i S N : Nat} (hN : 1 ≤ N) (hiN : i < N) (hS : S ≤ 64) : ∃ (q : Nat) (p : Int), i * S / N = q ∧ (i : Int) * (S : Int) / (N : Int) = q ∧ (((i : Int) - 1) * (S : Int)).tdiv (N : Int) = p ∧ (q : Int) ≤ 64 ∧ -64 ≤ p ∧ p ≤ 64 ∧ (i ≠ 0 → p = (((i - 1) * S / N : Nat) : Int) ∧ p ≤ q) := by
  have hq : i * S / N ≤ 64 := by
    have h2 : i * S ≤ N * 64 := Nat.mul_le_mul (by omega) hS
    exact Nat.div_le_of_le_mul h2
  refine ⟨i * S / N, _, rfl, by rw [Int.natCast_ediv, Int.natCast_mul], rfl, by omega, ?_, ?_, ?_⟩
  all_goals by_cases hi : i = 0
  · subst hi
    have e : (((0 : Nat) : Int) - 1) * (S : Int) = -(S : Int) := by omega
    rw [e, Int.neg_tdiv, Int.tdiv_eq_ediv_of_nonneg (by omega), ← Int.natCast_ediv]
    have : S / N ≤ S := Nat.div_le_self _ _
    omega
  · have e : (i : Int) - 1 = ((i - 1 : Nat) : Int) := by omega
    rw [e, ← Int.natCast_mul, Int.tdiv_eq_ediv_of_nonneg (by omega), ← Int.natCast_ediv]
    generalize (i - 1) * S / N = z
    omega
  · subst hi
    have e : (((0 : Nat) : Int) - 1) * (S : Int) = -(S : Int) := by omega
    rw [e, Int.neg_tdiv, Int.tdiv_eq_ediv_of_nonneg (by omega), ← Int.natCast_ediv]
    generalize S / N = z
    omega
  · have e : (i : Int) - 1 = ((i - 1 : Nat) : Int) := by omega
    have hm : (i - 1) * S / N ≤ i * S / N := Nat.div_le_div_right (Nat.mul_le_mul_right _ (by omega))
    rw [e, ← Int.natCast_mul, Int.tdiv_eq_ediv_of_nonneg (by omega), ← Int.natCast_ediv]
    omega
  · exact fun h => absurd hi h
  · intro _
    have e : (i : Int) - 1 = ((i - 1 : Nat) : Int) := by omega
    have hm : (i - 1) * S / N ≤ i * S / N := Nat.div_le_div_right (Nat.mul_le_mul_right _ (by omega))
    rw [e, ← Int.natCast_mul, Int.tdiv_eq_ediv_of_nonneg (by omega), ← Int.natCast_ediv]
    exact ⟨rfl, by omega⟩
/-- A model that is the law's own. -/
structure MG (w0 w : World) (mp : Nat) (B : MB) (T : Mst) : Prop where
  md : IsModel w B T
  mp : B.mp = mp
  low : ∀ g, B.lab g ≠ .no → w0.heap.size ≤ g
  below : Below w0.heap.size w0 w
section
variable {w0 w w' : World} {mp : Nat} {B B' : MB} {T T' : Mst} {n S i j : Nat} {T0 : Mst}
theorem MG.turn (h : MG w0 w mp B T) (hM : IsModel w' B' T') (hT : Turn w w' B B') : MG w0 w' mp B' T' :=
  have hl := hT.lower h.low h.below.size
  ⟨hM, hT.mp.trans h.mp, hl.2, h.below.trans hl.1⟩
theorem MG.keep (h : MG w0 w mp B T) (hb : Below w.heap.size w w') : MG w0 w' mp B T := ⟨h.md.below hb, h.mp, h.low, h.below.trans (hb.mono h.below.size)⟩
theorem MG.map (h : MG w0 w mp B T) (hl : T.L.length ≤ 100000000) :
    Calls Try.prog 14 #[.pointer (some ⟨mp, 0, none⟩)] w fun e w' => ∃ a c, e = .returned (.slice a T.L.length c) ∧ Own 53 7 rowL w.heap.size w' (.slice a T.L.length c) T.L ∧ MG w0 w' mp B T ∧ Below w.heap.size w w' := by
  have hc := mMap_any h.md hl
  rw [h.mp] at hc
  refine hc.mono ?_
  rintro e w' ⟨v, rfl, ho, hb⟩
  obtain ⟨a, c, rfl, _⟩ := ho.sl fun _ => rfl
  exact ⟨a, c, rfl, ho, h.keep hb, hb⟩
theorem MG.stats (h : MG w0 w mp B T) :
    Calls Try.prog 13 #[.pointer (some ⟨mp, 0, none⟩)] w fun e w' => e = .returned (statV T.cnt.t T.cnt.l T.cnt.o T.cnt.f T.L.length T.now) ∧ MG w0 w' mp B T ∧ Below w.heap.size w w' := by
  have hc := stats_any h.md
  rw [h.mp] at hc
  refine hc.mono ?_
  rintro e w' ⟨rfl, hb⟩
  exact ⟨rfl, h.keep hb, hb⟩
theorem MG.event (h : MG w0 w mp B T) (hI : GI n S i i T) (hi : i < n) (hn : n ≤ 700) :
    Calls Try.prog 10 #[.pointer (some ⟨mp, 0, none⟩), itemV false (kG (n - 1 - i)) 5 ((n - 1 - i : Nat) : Int), .bool false] w fun e w' => e = .returned (.tuple #[.int .i64 1, .int .i64 0]) ∧ ∃ T', GI n S i (i + 1) T' ∧ MG w0 w' mp B T' := by
  obtain ⟨T', he, hI'⟩ := hI.event hi hn
  have hl : T.L.length ≤ 100000000 := by rw [hI.L, gL_len]; omega
  have hc := event_any h.md false false (kG (n - 1 - i)) 5 ((n - 1 - i : Nat) : Int) (by rw [kG_size]; decide) (by unfold is64; omega) hl (by rw [hI.cnt]; refine ⟨?_, ?_, ?_, ?_⟩ <;> (dsimp only; omega))
  rw [h.mp, he] at hc
  refine hc.mono ?_
  rintro e w' ⟨rfl, hM, hT⟩
  exact ⟨rfl, T', hI', h.turn hM hT⟩
theorem MG.ask (h : MG w0 w mp B T) (s : Int) (q : Rq) (qa : Option Addr) (qc : Nat) (hq : Sl 3 cellL w qa q.cells) (hl : q.cells.length ≤ 100000000) (hmax : T.L.length ≤ 100000000) (hmaxE : ∀ L, T.seals q.ep = some L → L.length ≤ 100000000) :
    Calls Try.prog 12 #[.pointer (some ⟨mp, 0, none⟩), .int .i64 s, .agg (q.at qa qc), .int .i64 0] w fun e w' => ∃ a c B', e = .returned (.tuple #[.agg ((T.ask s q 0).2.2.at (.slice a (T.ask s q 0).2.2.rows.length c)), .int .i64 (T.ask s q 0).2.1]) ∧ Own 53 7 rowL w.heap.size w' (.slice a (T.ask s q 0).2.2.rows.length c) (T.ask s q 0).2.2.rows ∧ MG w0 w' mp B' (T.ask s q 0).1 := by
  have hc := ask_any h.md s q qa qc 0 hq hl hmax hmaxE
  rw [h.mp] at hc
  refine hc.mono ?_
  rintro e w' ⟨v, B', rfl, ho, hM, hT, hv⟩
  obtain ⟨a, c, rfl, _⟩ := ho.sl fun _ => rfl
  exact ⟨a, c, B', rfl, ho, h.turn hM hT⟩
abbrev pinG : Array Value := #[.int .i64 4, .int .i64 0, .int .i64 0, .slice none 0 0, .int .i64 0, .string ⟨#[]⟩, .int .i64 0, .int .i64 0, .string ⟨#[]⟩, .int .i64 0, .int .i64 0]
abbrev scanG : Array Value := #[.int .i64 3, .int .i64 0, .int .i64 0, .slice none 0 0, .int .i64 0, .string ⟨#[]⟩, .int .i64 0, .int .i64 1, .string ⟨#[]⟩, .int .i64 0, .int .i64 256]
abbrev getG (e : Int) (a : Option Addr) : Array Value := #[.int .i64 1, .int .i64 0, .int .i64 e, .slice a 1 1, .int .i64 0, .string ⟨#[]⟩, .int .i64 0, .int .i64 0, .string ⟨#[]⟩, .int .i64 0, .int .i64 0]
theorem MG.pin (h : MG w0 w mp B T) (hI : GI n S i (i + 1) T) (hi : i < n) (hn : n ≤ 700) (hS : S ≤ 64) (hs : i = 0 ∨ 1 + (i - 1) * S / n < 1 + i * S / n) :
    Calls Try.prog 12 #[.pointer (some ⟨mp, 0, none⟩), .int .i64 ((1 + i * S / n : Nat) : Int), .agg pinG, .int .i64 0] w fun e w' => ∃ a c B' ep T', e = .returned (.tuple #[.agg (respL 2 0 0 ep (.slice a 0 c) 0 0 0 0 0 0), .int .i64 0]) ∧ GI n S (i + 1) (i + 1) T' ∧ MG w0 w' mp B' T' := by
  have hl : T.L.length ≤ 100000000 := by rw [hI.L, gL_len]; omega
  have hc := h.ask ((1 + i * S / n : Nat) : Int) ⟨4, 0, 0, [], zG, zG, 0⟩ none 0 (Sl.nil _ _ _ _) (Nat.zero_le _) hl (fun L hL => by
    obtain ⟨s, he⟩ := (h.md.inv.slk 0).1 (by rw [hL]; rfl)
    have := h.md.inv.old s 0 he
    omega)
  rw [(hI.pin hi hn hS hs).1] at hc
  refine Calls.mono hc ?_
  rintro e w' ⟨a, c, B', rfl, _, hM⟩
  exact ⟨a, c, B', T.now, _, rfl, (hI.pin hi hn hS hs).2, hM⟩
theorem MG.scan (h : MG w0 w mp B T) (hI : GI n S i n T) (hi : i ≤ 700) (hn : n ≤ 700) :
    Calls Try.prog 12 #[.pointer (some ⟨mp, 0, none⟩), .int .i64 1, .agg scanG, .int .i64 0] w fun e w' => ∃ a c B' T', e = .returned (.tuple #[.agg (respL 1 0 0 0 (.slice a ((gL 0 n).take 256).length c) 0 0 0 0 0 0), .int .i64 0]) ∧ Own 53 7 rowL w.heap.size w' (.slice a ((gL 0 n).take 256).length c) ((gL 0 n).take 256) ∧ GI n S (i + 1) n T' ∧ MG w0 w' mp B' T' := by
  have hl : T.L.length ≤ 100000000 := by rw [hI.L, gL_len]; omega
  have hc := h.ask 1 ⟨3, 0, 0, [], zG, ⟨1, ⟨#[]⟩, 0⟩, 256⟩ none 0 (Sl.nil _ _ _ _) (Nat.zero_le _) hl (fun L hL => by
    obtain ⟨s, he⟩ := (h.md.inv.slk 0).1 (by rw [hL]; rfl)
    have := h.md.inv.old s 0 he
    omega)
  rw [(hI.scan hi).1] at hc
  refine Calls.mono hc ?_
  rintro e w' ⟨a, c, B', rfl, ho, hM⟩
  exact ⟨a, c, B', _, rfl, ho, (hI.scan hi).2, hM⟩
theorem MG.mark (h : MG w0 w mp B T) (hI : GI n S i n T) (hn : n ≤ 700) (htd : ∀ l ∈ T.told, l.length ≤ 100000000) :
    Calls Try.prog 15 #[.pointer (some ⟨mp, 0, none⟩), .int .i64 0, .int .i64 0, .int .i64 10] w fun e w' => e = .returned (.int .i64 0) ∧ ∃ B' T', GK n 0 T T' ∧ MG w0 w' mp B' T' ∧ Turn w w' B B' := by
  have hl : T.L.length ≤ 100000000 := by rw [hI.L, gL_len]; omega
  have hc := mark_any h.md 0 0 10 hl htd
  rw [h.mp, hI.mark] at hc
  refine hc.mono ?_
  rintro e w' ⟨rfl, B', hM, hT⟩
  exact ⟨rfl, B', _, hI.killed, h.turn hM hT, hT⟩
theorem MG.wrong (h : MG w0 w mp B T) (hK : GK n i T0 T) (hi : i + 1 < n) (hn : n ≤ 700) :
    Calls Try.prog 16 #[.pointer (some ⟨mp, 0, none⟩), .agg #[.int .i64 0, .string (kG (i + 1)), .int .i64 0]] w fun e w' => e = .returned (.int .i64 53) ∧ MG w0 w' mp B T ∧ Turn w w' B B := by
  have hl : T.L.length ≤ 100000000 := by rw [hK.L, gL_len]; omega
  have hc := kill_any h.md (gC (i + 1)) hl
  rw [h.mp, hK.wrong hi hn] at hc
  refine hc.mono ?_
  rintro e w' ⟨rfl, hM, hT⟩
  exact ⟨rfl, h.turn hM hT, hT⟩
theorem MG.right (h : MG w0 w mp B T) (hK : GK n i T0 T) (hi : i < n) (hn : n ≤ 700) :
    Calls Try.prog 16 #[.pointer (some ⟨mp, 0, none⟩), .agg #[.int .i64 0, .string (kG i), .int .i64 0]] w fun e w' => e = .returned (.int .i64 0) ∧ ∃ T', GK n (i + 1) T0 T' ∧ MG w0 w' mp B T' ∧ Turn w w' B B := by
  have hl : T.L.length ≤ 100000000 := by rw [hK.L, gL_len]; omega
  obtain ⟨T', he, hK'⟩ := hK.right hi hn
  have hc := kill_any h.md (gC i) hl
  rw [h.mp, he] at hc
  refine hc.mono ?_
  rintro e w' ⟨rfl, hM, hT⟩
  exact ⟨rfl, T', hK', h.turn hM hT, hT⟩
theorem MG.get (h : MG w0 w mp B T) (hl : T.L.length ≤ 100000000) (hs0 : ∀ e L, T.seals e = some L → gR (n - 1) ∈ L ∧ L.length ≤ 100000000) {s e : Int} (hs1 : 1 ≤ s) (hs2 : s ≤ 64) (he1 : 1 ≤ e) (he2 : e < T.now) (qa : Option Addr) (hq : Sl 3 cellL w qa [gC (n - 1)]) :
    Calls Try.prog 12 #[.pointer (some ⟨mp, 0, none⟩), .int .i64 s, .agg (getG e qa), .int .i64 0] w fun r w' => ∃ (k er : Int) (rows : List Rw) (a : Option Addr) (c : Nat) (B' : MB), r = .returned (.tuple #[.agg (respL k 0 er 0 (.slice a rows.length c) 0 0 0 0 0 0), .int .i64 0]) ∧ ((k = 5 ∧ rows = []) ∨ (k = 1 ∧ rows = [gR (n - 1)])) ∧ Own 53 7 rowL w.heap.size w' (.slice a rows.length c) rows ∧ MG w0 w' mp B' T := by
  have hc := h.ask s ⟨1, 0, e, [gC (n - 1)], zG, zG, 0⟩ qa 1 hq (by simp) hl (fun L hL => (hs0 e L hL).2)
  rcases g_get (n := n) h.md.inv (fun e L hL => (hs0 e L hL).1) hs1 hs2 he1 he2 with hr | hr
  · rw [hr] at hc
    refine Calls.mono hc ?_
    rintro r w' ⟨a, c, B', rfl, ho, hM⟩
    exact ⟨5, 33, [], a, c, B', rfl, .inl ⟨rfl, rfl⟩, ho, hM⟩
  · rw [hr] at hc
    refine Calls.mono hc ?_
    rintro r w' ⟨a, c, B', rfl, ho, hM⟩
    exact ⟨1, 0, [gR (n - 1)], a, c, B', rfl, .inr ⟨rfl, rfl⟩, ho, hM⟩
end
theorem wpList_buildG {P : Program} {ops : Array Oper} {Q : Exit → Act → World → Prop} {a : Act} {w : World} {rest : List Oper} {op : Oper} (hgd : op.guard = none) (t : TypeId) (parts : Array (Nat × Operand)) (ho : op.op = .build t parts) (cells : Array Value)
    (hc : P.built t (parts.map fun (i, x) => (i, a.eval x)).toList = some cells) (h : wpList P ops Q rest (a.put op.dst (.agg cells)) w) : wpList P ops Q (op :: rest) a w :=
  wpList_plain hgd fun _ hK => by
    unfold Oper.wp execOp
    simp only [ho, Sem.run_bind, run_build w t _ cells hc, Result.andThen_ok]
    exact hK _ _ h
/-- A row that is looked at. -/
structure GreatS (W0 : World) (gr xb xo : Nat) (R : Obj) (k : ByteArray) (v : Int) (W : World) : Prop where
  b : Below W0.heap.size W0 W
  r : W.heap[gr]? = some R
  k : W.cell? ⟨xb, xo + 1, none⟩ = some (.string k)
  v : W.cell? ⟨xb, xo + 4, none⟩ = some (.int .i64 v)
theorem GreatS.of {W0 : World} {gr xb xo : Nat} {R : Obj} {k : ByteArray} {v : Int} (hr : W0.heap[gr]? = some R) (hx : xb < W0.heap.size) (hk : W0.cell? ⟨xb, xo + 1, none⟩ = some (.string k)) (hv : W0.cell? ⟨xb, xo + 4, none⟩ = some (.int .i64 v)) (W : World) (h : Below W0.heap.size W0 W) : GreatS W0 gr xb xo R k v W :=
  ⟨h, (h.block _ (lt_of_block hr)).trans hr, (h.cell (p := ⟨xb, _, none⟩) hx).trans hk, (h.cell (p := ⟨xb, _, none⟩) hx).trans hv⟩
theorem turn_away {w w' : World} {B B' : MB} (hT : Turn w w' B B') {g : Nat} (hn : B.lab g = .no) (hlt : g < w.heap.size) : B'.lab g = .no ∧ w'.heap[g]? = w.heap[g]? :=
  ⟨Decidable.byContradiction fun h => by rcases hT.lab g h with h1 | h1; exact h1 hn; omega, hT.chg.block g hlt (fun h => h hn)⟩
/-- Rows that the law holds beside the model. -/
structure KepG (w : World) (B : MB) (lo : Nat) (v : Value) (xs : List Rw) : Prop where
  own : Own 53 7 rowL lo w v xs
  no : ∀ g, v.ownBlock = some g → B.lab g = .no
theorem KepG.turn {w w' : World} {B B' : MB} {lo : Nat} {v : Value} {xs : List Rw} (h : KepG w B lo v xs) (hT : Turn w w' B B') : KepG w' B' lo v xs :=
  ⟨h.own.keep fun g hg hlt => (turn_away hT (h.no g hg) hlt).2, fun g hg => (turn_away hT (h.no g hg) (h.own.ge hg).2).1⟩
theorem KepG.below {w w' : World} {B : MB} {lo : Nat} {v : Value} {xs : List Rw} (h : KepG w B lo v xs) (hb : Below w.heap.size w w') : KepG w' B lo v xs := ⟨h.own.below hb, h.no⟩
theorem wrapS (n : Int) (h : 0 ≤ n ∧ n ≤ 100000) : IntKind.i64.wrap n = n := by
  have e1 : IntKind.i64.signed = true := rfl
  have e2 : (2 : Int) ^ IntKind.i64.bits = 18446744073709551616 := by decide
  have e3 : (2 : Int) ^ (IntKind.i64.bits - 1) = 9223372036854775808 := by decide
  simp only [IntKind.wrap]
  rw [if_neg]
  · rw [e2]; omega
  · intro h2
    rw [Bool.and_eq_true, decide_eq_true_eq] at h2
    obtain ⟨_, h2⟩ := h2
    rw [e2, e3] at h2
    omega
/-- Two rows of those. -/
structure KillS (g i j : Nat) (W : World) : Prop where
  a : W.cell? ⟨g, i * 7, none⟩ = some (.int .i64 0) ∧ W.cell? ⟨g, i * 7 + 1, none⟩ = some (.string (kG i)) ∧ W.cell? ⟨g, i * 7 + 2, none⟩ = some (.int .i64 0)
  b : j < 700 → W.cell? ⟨g, j * 7, none⟩ = some (.int .i64 0) ∧ W.cell? ⟨g, j * 7 + 1, none⟩ = some (.string (kG j)) ∧ W.cell? ⟨g, j * 7 + 2, none⟩ = some (.int .i64 0)
theorem KepG.cells {w : World} {B : MB} {lo g n c : Nat} {N : Nat} (h : KepG w B lo (.slice (some ⟨g, 0, none⟩) n c) (gL 0 N)) {i : Nat} (hi : i < N) :
    w.cell? ⟨g, i * 7, none⟩ = some (.int .i64 0) ∧ w.cell? ⟨g, i * 7 + 1, none⟩ = some (.string (kG i)) ∧ w.cell? ⟨g, i * 7 + 2, none⟩ = some (.int .i64 0) := by
  have hi' : i < (gL 0 N).length := by rw [gL_len]; omega
  obtain ⟨b, off, e, _, hc⟩ := (h.own.sl0 fun _ => rfl) i hi'
  injection e with e
  injection e with e1 e2
  subst e1
  subst e2
  rw [gL_get, Nat.zero_add] at hc
  have h0 := hc 0 _ rfl
  have h1 := hc 1 _ rfl
  have h2 := hc 2 _ rfl
  simp only [Nat.zero_add, Nat.add_zero] at h0 h1 h2
  exact ⟨h0, h1, h2⟩
end Go.Proofs.Ytaicecnfodhlcaa
/- The walk of the law ModelGreat. -/
set_option linter.unusedVariables false
set_option linter.unusedSimpArgs false
namespace Go.Proofs.Ytaicecnfodhlcaa
open Go.RowKit Go.Deep

set_option maxRecDepth 100000 in
set_option maxHeartbeats 40000000 in
theorem great_any (n0 s0 : Int) (W : World) :
    Calls Try.prog 4 #[.int .i64 n0, .int .i64 s0] W fun e W' => e = .returned (.bool true) ∧ Below W.heap.size W W' := by
  have hn := within_any n0 700 W (by decide) (by decide)
  have hs := within_any s0 64 W (by decide) (by decide)
  obtain ⟨N, hN, hN1, hN2⟩ : ∃ N : Nat, 1 + wi n0 700 = (N : Int) ∧ 1 ≤ N ∧ N ≤ 700 := by
    have := wi_bounds n0 700 (by decide)
    exact ⟨(1 + wi n0 700).toNat, by omega, by omega, by omega⟩
  obtain ⟨S, hS, hS1, hS2⟩ : ∃ S : Nat, 1 + wi s0 64 = (S : Int) ∧ 1 ≤ S ∧ S ≤ 64 := by
    have := wi_bounds s0 64 (by decide)
    exact ⟨(1 + wi s0 64).toNat, by omega, by omega, by omega⟩
  have hsi := simple_any W
  have hhead := fun W' => head_any W'
  have hwn : wi n0 700 = (N : Int) - 1 := by omega
  have hws : wi s0 64 = (S : Int) - 1 := by omega
  rw [hwn] at hn
  rw [hws] at hs
  have e1 : 1 + ((N : Int) - 1) = N := by omega
  have e2 : 1 + ((S : Int) - 1) = S := by omega
  clear hN hS hwn hws
  go_enter Try.func4, Try.ntmps4
  go_wp2_with fail
  refine hn.mono ?_
  rintro e w1 ⟨rfl, rfl⟩
  go_wp2_with fail
  refine hs.mono ?_
  rintro e w1 ⟨rfl, rfl⟩
  clear hn hs
  go_wp2_with fail
  refine hsi.mono ?_
  rintro e w1 ⟨b, rfl, hs1, hb1⟩
  have hnew := fun w2 (hb2 : Below w1.heap.size w1 w2) => mnew_ok c0 (some ⟨b, 0, none⟩) 1 w2 (hs1.below hb2) (by decide) c0_right
  have Hb1 := Lib.hid hb1
  clear hsi hs1 hb1
  simp only [e1, e2]
  clear e1 e2
  go_upto_region 4 with fail
  generalize hWq : World.alloc w1 _ = wq
  have hbq : Below w1.heap.size w1 wq := by rw [← hWq]; exact (Below.refl _ _).alloc (Nat.le_refl _) _
  have rq : wq.heap[w1.heap.size]? = some (cfgO c0 (some ⟨b, 0, none⟩) 1) := by rw [← hWq]; exact blk_at rfl
  have u0 := cell_blk rq 0
  have u1 := cell_blk rq 1
  have u2 := cell_blk rq 2
  have u3 := cell_blk rq 3
  have u4 := cell_blk rq 4
  have u5 := cell_blk rq 5
  have u6 := cell_blk rq 6
  have u7 := cell_blk rq 7
  have u8 := cell_blk rq 8
  have u9 := cell_blk rq 9
  have u10 := cell_blk rq 10
  have u11 := cell_blk rq 11
  simp at u0 u1 u2 u3 u4 u5 u6 u7 u8 u9 u10 u11
  have hnew1 := hnew wq hbq
  have Hbq := Lib.hid (Hb1.out.trans (hbq.mono Hb1.out.size))
  clear hnew hWq hbq rq Hb1
  go_wp2_with fail
  refine hnew1.mono ?_
  rintro e w2 ⟨B0, rfl, hM, hb2, hl2⟩
  have HM0 : Hid (MG W w2 B0.mp B0 (Mst.new c0)) := Lib.hid ⟨hM, rfl, fun g hg => Nat.le_trans Hbq.out.size (hl2 g hg), Hbq.out.trans (hb2.mono Hbq.out.size)⟩
  clear hnew1 hM hb2 hl2 u0 u1 u2 u3 u4 u5 u6 u7 u8 u9 u10 u11
  generalize B0.mp = mp at *
  go_upto_block 0 with fail
  go_cut [8, 9, 10, 11, 12, 13, 14] from 44 to 100 (fun s8 s9 s10 s11 s12 s13 s14 wx => ∃ (B : MB) (T : Mst), GI N S N N T ∧ MG W wx mp B T)
  case first =>
    as_aux_lemma =>
      go_wp2_with fail
      go_loopg [8, 9, 10, 11, 12, 13, 14] N (fun g s8 s9 s10 s11 s12 s13 s14 wr => ∃ (i : Nat) (B : MB) (T : Mst), i + g = N ∧ s8 = .int .i64 i ∧ GI N S i i T ∧ MG W wr mp B T)
      case atStart => exact ⟨0, B0, _, by omega, rfl, GI.new N S, HM0.out⟩
      case round =>
        obtain ⟨i, B, T, hi, rfl, hI, hM⟩ := hrel
        have Hi := Lib.hid hi
        have HI := Lib.hid hI
        have HM := Lib.hid hM
        clear hi hI hM
        by_cases hlt : i < N
        · have hil : (i : Int) < (N : Int) := by omega
          have hk : (N : Int) - 1 - i = ((N - 1 - i : Nat) : Int) := by omega
          have hkey := fun W' => key_any (N - 1 - i) (by omega) W'
          rw [← hk] at hkey
          have hev := fun w' (h : MG W w' mp B T) => h.event HI.out hlt hN2
          rw [← hk] at hev
          clear hk
          have Hev := Lib.hid hev
          clear hev
          go_wp2_with fail
          refine (hkey _).mono ?_
          rintro e w3 ⟨rfl, hb3⟩
          have hev := Hev.out w3 (HM.out.keep hb3)
          clear hkey hb3
          go_wp2_with fail
          refine hev.mono ?_
          rintro e w4 ⟨rfl, T1, hI1, hM1⟩
          have HI1 := Lib.hid hI1
          have HM1 := Lib.hid hM1
          clear hev hI1 hM1 HM Hev
          obtain ⟨q, p, hq, hqI, hpI, hq64, hp0, hp64, hpq⟩ := great_div hN1 hlt hS2
          have hb1 : i * S ≤ 700 * 64 := Nat.mul_le_mul (by omega) hS2
          have hm0 : 0 ≤ (i : Int) * (S : Int) := by rw [← Int.natCast_mul]; omega
          have hm1 : (i : Int) * (S : Int) ≤ 44800 := by rw [← Int.natCast_mul]; omega
          have hm2 : -64 ≤ ((i : Int) - 1) * (S : Int) := by rw [Int.sub_mul]; omega
          have hm3 : ((i : Int) - 1) * (S : Int) ≤ 44800 := by rw [Int.sub_mul]; omega
          have hNz : ¬ (N : Int) = 0 := by omega
          have hNz2 : ((N : Int) == 0) = false := by simpa using hNz
          have Hpq := Lib.hid hpq
          have Hq := Lib.hid hq
          clear hpq hq hb1
          have hcase : (¬ ((q : Int) = p) ∨ (((i : Int) == 0) = true ∧ (q : Int) = p)) ∨ ((q : Int) = p ∧ i ≠ 0) := by
            by_cases h1 : (q : Int) = p
            · by_cases h2 : i = 0
              · exact .inl (.inr ⟨by simp [h2], h1⟩)
              · exact .inr ⟨h1, h2⟩
            · exact .inl (.inl h1)
          rcases hcase with hc | ⟨rfl, hi0⟩
          · have hlt2 : i = 0 ∨ 1 + (i - 1) * S / N < 1 + i * S / N := by
              by_cases hz : i = 0
              · exact .inl hz
              · right
                have hc : ¬ ((q : Int) = p) := by
                  rcases hc with hc | ⟨h9, _⟩
                  · exact hc
                  · exact absurd (by simpa using h9) hz
                have h1 := Hpq.out hz
                have h2 := Hq.out
                omega
            have hpin := HM1.out.pin HI1.out hlt hN2 hS2 hlt2
            have es : ((1 + i * S / N : Nat) : Int) = 1 + (q : Int) := by rw [Hq.out]; omega
            rw [es] at hpin
            have Hpin := Lib.hid hpin
            clear hpin es hlt2
            rcases hc with hc | ⟨hz, rfl⟩
            all_goals (
              go_wp2_with fail
              refine Hpin.out.mono ?_
              rintro e w5 ⟨ra, rc, B', ep, T2, rfl, hI2, hM2⟩
              have HI2 := Lib.hid hI2
              have HM2 := Lib.hid hM2
              clear hI2 hM2
              go_upto_region 17 with fail
              generalize hWr : World.alloc w5 _ = wr1
              have hbr : Below w5.heap.size w5 wr1 := by rw [← hWr]; exact (Below.refl _ _).alloc (Nat.le_refl _) _
              have rr : wr1.heap[w5.heap.size]? = some (.cells (respL 2 0 0 ep (.slice ra 0 rc) 0 0 0 0 0 0) 41 (0, 0)) := by rw [← hWr]; exact blk_at rfl
              have y0 := cell_blk rr 0
              simp at y0
              have HMr := Lib.hid (HM2.out.keep hbr)
              clear hWr hbr rr
              go_wp2_with fail
              clear hqI hpI hm0 hm1 hm2 hm3 hq64 hp0 hp64 hNz hNz2
              go_roundg (gk - 1)
              case measure => have := Hi.out; omega
              case rel => exact ⟨i + 1, B', T2, (by have := Hi.out; omega), (by go_num), HI2.out, HMr.out⟩)
          · have hI2 := HI1.out.skip hi0
            have HI2 := Lib.hid hI2
            clear hI2
            go_wp2_with fail
            clear hqI hpI hm0 hm1 hm2 hm3 hq64 hp0 hp64 hNz hNz2
            go_roundg (gk - 1)
            case measure => have := Hi.out; omega
            case rel => exact ⟨i + 1, B, T1, (by have := Hi.out; omega), (by go_num), HI2.out, HM1.out⟩
        · have hil : ¬ (i : Int) < (N : Int) := by omega
          go_wp2_with fail
          go_meet
          have hiN : i = N := by have := Hi.out; omega
          rw [hiN] at HI
          exact ⟨B, T, HI.out, HM.out⟩
  case rest =>
    obtain ⟨B, T, hI, hM⟩ := hcut
    have hsc := hM.scan hI hN2 hN2
    obtain ⟨R, hR⟩ : ∃ R, (gL 0 N).take 256 = R := ⟨_, rfl⟩
    obtain ⟨kk, hkk⟩ : ∃ kk : Nat, R.length = kk := ⟨_, rfl⟩
    have hkm : min (N : Int) 256 = (kk : Int) := by rw [← hkk, ← hR, List.length_take, gL_len]; omega
    have hRg : ∀ i (h : i < R.length), R[i] = gR i := by
      intro i h
      subst hR
      rw [List.getElem_take, gL_get]
      simp
    simp only [hR, hkk] at hsc
    have HRg := Lib.hid hRg
    have Hkl : Hid (kk ≤ 256) := Lib.hid (by omega)
    have Hkk := Lib.hid hkk
    clear hI hM hR hRg hkk HM0
    go_wp2_with (first | (refine wpList_buildG (t := 48) rfl _ rfl scanG (by kernel_rfl) ?_) | (refine wpList_buildG (t := 46) rfl _ rfl #[.int .i64 1, .string ⟨#[]⟩, .int .i64 0] (by kernel_rfl) ?_))
    refine hsc.mono ?_
    rintro e w3 ⟨ra, rc, B', T1, rfl, ho, hI1, hM1⟩
    have Ho := Lib.hid ho
    have HI1 := Lib.hid hI1
    have HM1 := Lib.hid hM1
    clear hsc ho hI1 hM1
    go_upto_region 20 with fail
    generalize hWr : World.alloc w3 _ = wr1
    have hbr : Below w3.heap.size w3 wr1 := by rw [← hWr]; exact (Below.refl _ _).alloc (Nat.le_refl _) _
    have rr : wr1.heap[w3.heap.size]? = some (.cells (respL 1 0 0 0 (.slice ra kk rc) 0 0 0 0 0 0) 41 (0, 0)) := by rw [← hWr]; exact blk_at rfl
    have y4 := cell_blk rr 4
    simp at y4
    have HMr := Lib.hid (HM1.out.keep hbr)
    have Hor := Lib.hid (Ho.out.below hbr)
    have hst := HMr.out.stats
    rw [HI1.out.cnt, HI1.out.L, gL_len, Nat.sub_self, Nat.sub_zero] at hst
    dsimp only at hst
    have hfd : ∀ Wz : World, (Instr.field 39 (statV (N : Int) 0 0 0 (N : Int) T1.now) 4).run Try.prog Wz = .ok (.int .i64 N) Wz := fun _ => by kernel_rfl
    have Rr := Lib.hid rr
    clear hWr hbr rr HM1 Ho
    go_wp2_with fail
    refine hst.mono ?_
    rintro e w5 ⟨rfl, hM5, hb5⟩
    have HM5 := Lib.hid hM5
    have Ho5 := Lib.hid (Hor.out.below hb5)
    have R5 := Lib.hid ((hb5.block _ (lt_of_block Rr.out)).trans Rr.out)
    clear hst hM5 hb5 HMr Hor Rr y4
    go_upto_block 2 with fail
    clear hfd hkm
    go_cut [17] from 125 to 152 (fun s17 wx => Below w5.heap.size w5 wx)
    case first =>
      as_aux_lemma =>
        go_wp2_with fail
        go_loopg [17] kk (fun g s17 wr => ∃ i : Nat, i + g = kk ∧ s17 = .int .i64 i ∧ Below w5.heap.size w5 wr)
        case atStart => exact ⟨0, by omega, rfl, Below.refl _ _⟩
        case round =>
          obtain ⟨i, hi, rfl, hb⟩ := hrel
          have Hi := Lib.hid hi
          have Hb := Lib.hid hb
          have y4 := cell_blk ((hb.block _ (lt_of_block R5.out)).trans R5.out) 4
          simp at y4
          clear hi hb
          have hkl : kk ≤ 256 := Hkl.out
          by_cases hlt : i < kk
          · have hil : (i : Int) < (kk : Int) := by omega
            have hiR := hlt
            rw [← Hkk.out] at hiR
            obtain ⟨xb, xo, hra, hxb, hxc⟩ := (Ho5.out.sl0 fun _ => rfl) i hiR
            rw [HRg.out i hiR] at hxc
            have x1 := hxc 1 _ rfl
            have x4 := hxc 4 _ rfl
            have hx1 : w5.cell? ⟨xb, xo + i * 7 + 1, none⟩ = some (.string (kG i)) := x1
            have hx4 : w5.cell? ⟨xb, xo + i * 7 + 4, none⟩ = some (.int .i64 i) := x4
            have hkey := fun W' => key_any i (by omega) W'
            have kS := GreatS.of R5.out hxb hx1 hx4
            have HkS := Lib.hid kS
            have Hkey := Lib.hid hkey
            subst hra
            clear x1 x4 hxc hx1 hx4 kS hkey hiR
            go_upto_region 25 with fail
            have kS := HkS.out
            have k0 := kS _ Hb.out.drew
            have Hwb0 := Lib.hid Hb.out.drew
            refine wp_region_held_drew (S := GreatS w5 w3.heap.size xb (xo + i * 7) (.cells (respL 1 0 0 0 (.slice (some ⟨xb, xo, none⟩) kk rc) 0 0 0 0 0 0) 41 (0, 0)) (kG i) i) (by kernel_rfl) k0 (fun hHeld => ?_)
            refine wpAnyH_takeD (i := 0) (oi := _) (d := 132) (v := ?vp0) rfl (by kernel_rfl) (by kernel_rfl) (by kernel_rfl) (by kernel_rfl) (fun _ _ _ h => h) (Or.inl ⟨by kernel_rfl, ?yp0⟩) (by assumption) ?rp0
            case yp0 =>
              intro w' hSw
              try dsimp only at hSw
              go_simp
              try with_reducible rfl
            try simp only [Act.put, List.setIfInBounds_toArray, List.set_cons_zero, List.set_cons_succ]
            refine wpAnyH_takeD (i := 1) (oi := _) (d := 133) (v := ?vp1) rfl (by kernel_rfl) (by kernel_rfl) (by kernel_rfl) (by kernel_rfl) (fun _ _ _ h => h) (Or.inl ⟨by kernel_rfl, ?yp1⟩) (by assumption) ?rp1
            case yp1 =>
              intro w' hSw
              obtain ⟨sB, sR, sK, sV⟩ := hSw
              have z4 := cell_blk sR 4
              simp at z4
              go_simp
              try with_reducible rfl
            try simp only [Act.put, List.setIfInBounds_toArray, List.set_cons_zero, List.set_cons_succ]
            refine wpAnyH_takeD (i := 2) (oi := _) (d := 134) (v := ?vp2) rfl (by kernel_rfl) (by kernel_rfl) (by kernel_rfl) (by kernel_rfl) (fun _ _ _ h => h) (Or.inl ⟨by kernel_rfl, ?yp2⟩) (by assumption) ?rp2
            case yp2 =>
              intro w' hSw
              try dsimp only at hSw
              go_simp
              try with_reducible rfl
            try simp only [Act.put, List.setIfInBounds_toArray, List.set_cons_zero, List.set_cons_succ]
            refine wpAnyH_takeD (i := 3) (oi := _) (d := 135) (v := ?vp3) rfl (by kernel_rfl) (by kernel_rfl) (by kernel_rfl) (by kernel_rfl) (fun _ _ _ h => h) (Or.inl ⟨by kernel_rfl, ?yp3⟩) (by assumption) ?rp3
            case yp3 =>
              intro w' hSw
              try dsimp only at hSw
              go_simp
              try with_reducible rfl
            try simp only [Act.put, List.setIfInBounds_toArray, List.set_cons_zero, List.set_cons_succ]
            refine wpAnyH_takeD (i := 4) (oi := _) (d := 136) (v := ?vp4) rfl (by kernel_rfl) (by kernel_rfl) (by kernel_rfl) (by kernel_rfl) (fun _ _ _ h => h) (Or.inl ⟨by kernel_rfl, ?yp4⟩) (by assumption) ?rp4
            case yp4 =>
              intro w' hSw
              try dsimp only at hSw
              go_simp
              try with_reducible rfl
            try simp only [Act.put, List.setIfInBounds_toArray, List.set_cons_zero, List.set_cons_succ]
            refine wpAnyH_takeD (i := 5) (oi := _) (d := 137) (v := ?vp5) rfl (by kernel_rfl) (by kernel_rfl) (by kernel_rfl) (by kernel_rfl) (fun _ _ _ h => h) (Or.inl ⟨by kernel_rfl, ?yp5⟩) (by assumption) ?rp5
            case yp5 =>
              intro w' hSw
              try dsimp only at hSw
              go_simp
              try with_reducible rfl
            try simp only [Act.put, List.setIfInBounds_toArray, List.set_cons_zero, List.set_cons_succ]
            refine wpAnyH_takeD (i := 6) (oi := _) (d := 138) (v := ?vp6) rfl (by kernel_rfl) (by kernel_rfl) (by kernel_rfl) (by kernel_rfl) (fun _ _ _ h => h) (Or.inl ⟨by kernel_rfl, ?yp6⟩) (by assumption) ?rp6
            case yp6 =>
              intro w' hSw
              obtain ⟨sB, sR, sK, sV⟩ := hSw
              skip
              go_simp
              try with_reducible rfl
            try simp only [Act.put, List.setIfInBounds_toArray, List.set_cons_zero, List.set_cons_succ]
            refine wpAnyH_takeD (i := 7) (oi := _) (d := 139) (v := ?vp7) rfl (by kernel_rfl) (by kernel_rfl) (by kernel_rfl) (by kernel_rfl) (fun _ _ _ h => h) (Or.inl ⟨by kernel_rfl, ?yp7⟩) (by assumption) ?rp7
            case yp7 =>
              intro w' hSw
              try dsimp only at hSw
              go_simp
              try with_reducible rfl
            try simp only [Act.put, List.setIfInBounds_toArray, List.set_cons_zero, List.set_cons_succ]
            refine wpAnyH_ready (rs := [8]) (by kernel_rfl) (by simp) ?_
            refine AllReadyH.cons (o := _) rfl (fun K hK => ?_) AllReadyH.nil
            go_simp
            go_at_call 11
            refine (Hkey.out _).mono ?_
            rintro e wd ⟨rfl, hbwd⟩
            have hb0 := Hwb0.out.trans (hbwd.mono Hwb0.out.size)
            have kwd := kS wd hb0
            have Hwd := Lib.hid hb0
            clear hbwd hb0
            refine hK.out _ _ kwd (fun _ => ?_)
            clear hK K
            try simp only [Act.put, List.setIfInBounds_toArray, List.set_cons_zero, List.set_cons_succ]
            refine wpAnyH_takeD (i := 9) (oi := _) (d := 141) (v := ?vp9) rfl (by kernel_rfl) (by kernel_rfl) (by kernel_rfl) (by kernel_rfl) (fun _ _ _ h => h) (Or.inl ⟨by kernel_rfl, ?yp9⟩) (by assumption) ?rp9
            case yp9 =>
              intro w' hSw
              try dsimp only at hSw
              go_simp
              try with_reducible rfl
            try simp only [Act.put, List.setIfInBounds_toArray, List.set_cons_zero, List.set_cons_succ]
            refine wpAnyH_takeD (i := 10) (oi := _) (d := 142) (v := ?vp10) rfl (by kernel_rfl) (by kernel_rfl) (by kernel_rfl) (by kernel_rfl) (fun _ _ _ h => h) (Or.inl ⟨by kernel_rfl, ?yp10⟩) (by assumption) ?rp10
            case yp10 =>
              intro w' hSw
              try dsimp only at hSw
              go_simp
              try with_reducible rfl
            try simp only [Act.put, List.setIfInBounds_toArray, List.set_cons_zero, List.set_cons_succ]
            refine wpAnyH_takeD (i := 11) (oi := _) (d := 143) (v := ?vp11) rfl (by kernel_rfl) (by kernel_rfl) (by kernel_rfl) (by kernel_rfl) (fun _ _ _ h => h) (Or.inl ⟨by kernel_rfl, ?yp11⟩) (by assumption) ?rp11
            case yp11 =>
              intro w' hSw
              try dsimp only at hSw
              go_simp
              try with_reducible rfl
            try simp only [Act.put, List.setIfInBounds_toArray, List.set_cons_zero, List.set_cons_succ]
            refine wpAnyH_takeD (i := 12) (oi := _) (d := 144) (v := ?vp12) rfl (by kernel_rfl) (by kernel_rfl) (by kernel_rfl) (by kernel_rfl) (fun _ _ _ h => h) (Or.inl ⟨by kernel_rfl, ?yp12⟩) (by assumption) ?rp12
            case yp12 =>
              intro w' hSw
              obtain ⟨sB, sR, sK, sV⟩ := hSw
              have z4 := cell_blk sR 4
              simp at z4
              go_simp
              try with_reducible rfl
            try simp only [Act.put, List.setIfInBounds_toArray, List.set_cons_zero, List.set_cons_succ]
            refine wpAnyH_takeD (i := 13) (oi := _) (d := 145) (v := ?vp13) rfl (by kernel_rfl) (by kernel_rfl) (by kernel_rfl) (by kernel_rfl) (fun _ _ _ h => h) (Or.inl ⟨by kernel_rfl, ?yp13⟩) (by assumption) ?rp13
            case yp13 =>
              intro w' hSw
              try dsimp only at hSw
              go_simp
              try with_reducible rfl
            try simp only [Act.put, List.setIfInBounds_toArray, List.set_cons_zero, List.set_cons_succ]
            refine wpAnyH_takeD (i := 14) (oi := _) (d := 146) (v := ?vp14) rfl (by kernel_rfl) (by kernel_rfl) (by kernel_rfl) (by kernel_rfl) (fun _ _ _ h => h) (Or.inl ⟨by kernel_rfl, ?yp14⟩) (by assumption) ?rp14
            case yp14 =>
              intro w' hSw
              try dsimp only at hSw
              go_simp
              try with_reducible rfl
            try simp only [Act.put, List.setIfInBounds_toArray, List.set_cons_zero, List.set_cons_succ]
            refine wpAnyH_takeD (i := 15) (oi := _) (d := 147) (v := ?vp15) rfl (by kernel_rfl) (by kernel_rfl) (by kernel_rfl) (by kernel_rfl) (fun _ _ _ h => h) (Or.inl ⟨by kernel_rfl, ?yp15⟩) (by assumption) ?rp15
            case yp15 =>
              intro w' hSw
              try dsimp only at hSw
              go_simp
              try with_reducible rfl
            try simp only [Act.put, List.setIfInBounds_toArray, List.set_cons_zero, List.set_cons_succ]
            refine wpAnyH_takeD (i := 16) (oi := _) (d := 148) (v := ?vp16) rfl (by kernel_rfl) (by kernel_rfl) (by kernel_rfl) (by kernel_rfl) (fun _ _ _ h => h) (Or.inl ⟨by kernel_rfl, ?yp16⟩) (by assumption) ?rp16
            case yp16 =>
              intro w' hSw
              try dsimp only at hSw
              go_simp
              try with_reducible rfl
            try simp only [Act.put, List.setIfInBounds_toArray, List.set_cons_zero, List.set_cons_succ]
            refine wpAnyH_takeD (i := 17) (oi := _) (d := 149) (v := ?vp17) rfl (by kernel_rfl) (by kernel_rfl) (by kernel_rfl) (by kernel_rfl) (fun _ _ _ h => h) (Or.inl ⟨by kernel_rfl, ?yp17⟩) (by assumption) ?rp17
            case yp17 =>
              intro w' hSw
              obtain ⟨sB, sR, sK, sV⟩ := hSw
              skip
              go_simp
              try with_reducible rfl
            try simp only [Act.put, List.setIfInBounds_toArray, List.set_cons_zero, List.set_cons_succ]
            refine wpAnyH_takeD (i := 18) (oi := _) (d := 150) (v := ?vp18) rfl (by kernel_rfl) (by kernel_rfl) (by kernel_rfl) (by kernel_rfl) (fun _ _ _ h => h) (Or.inl ⟨by kernel_rfl, ?yp18⟩) (by assumption) ?rp18
            case yp18 =>
              intro w' hSw
              try dsimp only at hSw
              go_simp
              try with_reducible rfl
            try simp only [Act.put, List.setIfInBounds_toArray, List.set_cons_zero, List.set_cons_succ]
            refine wpAnyH_takeD (i := 19) (oi := _) (d := 151) (v := ?vp19) rfl (by kernel_rfl) (by kernel_rfl) (by kernel_rfl) (by kernel_rfl) (fun _ _ _ h => h) (Or.inl ⟨by kernel_rfl, ?yp19⟩) (by assumption) ?rp19
            case yp19 =>
              intro w' hSw
              try dsimp only at hSw
              go_simp
              try with_reducible rfl
            try simp only [Act.put, List.setIfInBounds_toArray, List.set_cons_zero, List.set_cons_succ]
            refine wpAnyH_takeD (i := 20) (oi := _) (d := 152) (v := ?vp20) rfl (by kernel_rfl) (by kernel_rfl) (by kernel_rfl) (by kernel_rfl) (fun _ _ _ h => h) (Or.inl ⟨by kernel_rfl, ?yp20⟩) (by assumption) ?rp20
            case yp20 =>
              intro w' hSw
              try dsimp only at hSw
              go_simp
              try with_reducible rfl
            try simp only [Act.put, List.setIfInBounds_toArray, List.set_cons_zero, List.set_cons_succ]
            refine wpAnyH_done (by kernel_rfl) ?_ _
            go_wp2_with fail
            go_roundg (gk - 1)
            case measure => have := Hi.out; omega
            case rel => exact ⟨i + 1, by have := Hi.out; omega, by go_num, Hwd.out⟩
          · have hil : ¬ (i : Int) < (kk : Int) := by omega
            go_wp2_with fail
            go_meet
            exact Hb.out
    case rest =>
      have hbx : Below w5.heap.size w5 wc := hcut
      have HMx := Lib.hid (HM5.out.keep hbx)
      have hmap := HMx.out.map (by rw [HI1.out.L, gL_len]; omega)
      rw [HI1.out.L, gL_len, Nat.sub_self, Nat.sub_zero] at hmap
      clear hbx HM5 Ho5 R5 HRg Hkk hcut
      go_wp2_with fail
      refine hmap.mono ?_
      rintro e w6 ⟨la, lc, rfl, hol, hM6, hb6⟩
      have hno6 : ∀ g, (Value.slice la N lc).ownBlock = some g → B'.lab g = .no := fun g hg => by
        refine Decidable.byContradiction fun hn => ?_
        have h1 := HMx.out.md.lt g hn
        have h2 := (hol.ge hg).1
        omega
      have hmk := hM6.mark HI1.out hN2 (fun l hl => by rw [HI1.out.told l hl]; exact Nat.zero_le _)
      have HM6 := Lib.hid hM6
      have Hol := Lib.hid hol
      have Hno6 := Lib.hid hno6
      clear hmap hol hM6 hb6 hno6
      go_wp2_with fail
      refine hmk.mono ?_
      rintro e w7 ⟨rfl, B4, T2, hK2, hM7, hT7⟩
      obtain ⟨gl, rfl, _, _⟩ := Hol.out.pos (by rw [gL_len]; omega)
      have HK2 := Lib.hid hK2
      have HM7 := Lib.hid hM7
      have Hk7 := Lib.hid ((KepG.mk Hol.out Hno6.out).turn hT7)
      clear hmk hK2 hM7 hT7 HM6 HMx Hol Hno6
      generalize wc.heap.size = lo at *
      go_upto_block 4 with fail
      go_cut [19] from 164 to 204 (fun s19 wx => ∃ T : Mst, GK N N T1 T ∧ MG W wx mp B4 T)
      case first =>
        as_aux_lemma =>
          go_wp2_with fail
          go_loopg [19] N (fun g s19 wr => ∃ (i : Nat) (T : Mst), i + g = N ∧ s19 = .int .i64 i ∧ GK N i T1 T ∧ MG W wr mp B4 T ∧ KepG wr B4 lo (.slice (some ⟨gl, 0, none⟩) N lc) (gL 0 N))
          case atStart => exact ⟨0, T2, by omega, rfl, HK2.out, HM7.out, Hk7.out⟩
          case round =>
            obtain ⟨i, T, hi, rfl, hK, hM, hk⟩ := hrel
            have Hi := Lib.hid hi
            have HK := Lib.hid hK
            have HM := Lib.hid hM
            have Hk := Lib.hid hk
            clear hi hK hM hk
            by_cases hlt : i < N
            · have hil : (i : Int) < (N : Int) := by omega
              have Hwr : Hid (∀ W', MG W W' mp B4 T → i + 1 < N → _) := Lib.hid fun W' h h2 => h.wrong (i := i) HK.out h2 hN2
              have Hrg : Hid (∀ W', MG W W' mp B4 T → _) := Lib.hid fun W' h => h.right (i := i) HK.out hlt hN2
              have Hkey := Lib.hid (fun W' => key_any i (by omega) W')
              have hKS : ∀ W', KepG W' B4 lo (.slice (some ⟨gl, 0, none⟩) N lc) (gL 0 N) → (i + 1 < N → KillS gl i (i + 1) W') ∧ KillS gl i 700 W' := fun W' h => ⟨fun h2 => ⟨h.cells hlt, fun _ => h.cells h2⟩, h.cells hlt, fun h2 => absurd h2 (Nat.lt_irrefl _)⟩
              have HKS := Lib.hid hKS
              clear hKS
              have hw1 := wrapS ((i : Int) + 1) (by omega)
              have h0i : 0 ≤ (i : Int) + 1 := by omega
              by_cases h2 : i + 1 < N
              · have h2i : (i : Int) + 1 < (N : Int) := by omega
                have h2t : decide ((i : Int) + 1 < (N : Int)) = true := decide_eq_true h2i
                have h27 : i + 1 < 700 := by omega
                go_upto_region 33 with fail
                have HMd := Lib.hid (HM.out.keep (Below.refl wr.heap.size wr).drew)
                have Hkd := Lib.hid (Hk.out.below (Below.refl wr.heap.size wr).drew)
                have k0 := (HKS.out _ Hkd.out).1 h2
                refine wp_region_held_drew (S := KillS gl i (i + 1)) (by kernel_rfl) k0 (fun hHeld => ?_)
                refine wpAnyH_takeD (i := 0) (oi := _) (d := 169) (v := ?vkA0) rfl (by kernel_rfl) (by kernel_rfl) (by kernel_rfl) (by kernel_rfl) (fun _ _ _ h => h) (Or.inl ⟨by kernel_rfl, ?ykA0⟩) (by assumption) ?rkA0
                case ykA0 =>
                  intro w' hSw
                  try dsimp only at hSw
                  go_simp
                  try with_reducible rfl
                try simp only [Act.put, List.setIfInBounds_toArray, List.set_cons_zero, List.set_cons_succ]
                refine wpAnyH_takeD (i := 1) (oi := _) (d := 170) (v := ?vkA1) rfl (by kernel_rfl) (by kernel_rfl) (by kernel_rfl) (by kernel_rfl) (fun _ _ _ h => h) (Or.inl ⟨by kernel_rfl, ?ykA1⟩) (by assumption) ?rkA1
                case ykA1 =>
                  intro w' hSw
                  try dsimp only at hSw
                  go_simp
                  try with_reducible rfl
                try simp only [Act.put, List.setIfInBounds_toArray, List.set_cons_zero, List.set_cons_succ]
                refine wpAnyH_takeD (i := 2) (oi := _) (d := 171) (v := ?vkA2) rfl (by kernel_rfl) (by kernel_rfl) (by kernel_rfl) (by kernel_rfl) (fun _ _ _ h => h) (Or.inl ⟨by kernel_rfl, ?ykA2⟩) (by assumption) ?rkA2
                case ykA2 =>
                  intro w' hSw
                  try dsimp only at hSw
                  go_simp
                  try with_reducible rfl
                try simp only [Act.put, List.setIfInBounds_toArray, List.set_cons_zero, List.set_cons_succ]
                refine wpAnyH_takeD (i := 3) (oi := _) (d := 172) (v := ?vkA3) rfl (by kernel_rfl) (by kernel_rfl) (by kernel_rfl) (by kernel_rfl) (fun _ _ _ h => h) (Or.inl ⟨by kernel_rfl, ?ykA3⟩) (by assumption) ?rkA3
                case ykA3 =>
                  intro w' hSw
                  try dsimp only at hSw
                  go_simp
                  try with_reducible rfl
                try simp only [Act.put, List.setIfInBounds_toArray, List.set_cons_zero, List.set_cons_succ]
                refine wpAnyH_takeD (i := 4) (oi := _) (d := 173) (v := ?vkA4) rfl (by kernel_rfl) (by kernel_rfl) (by kernel_rfl) (by kernel_rfl) (fun _ _ _ h => h) (Or.inl ⟨by kernel_rfl, ?ykA4⟩) (by assumption) ?rkA4
                case ykA4 =>
                  intro w' hSw
                  try dsimp only at hSw
                  go_simp
                  try with_reducible rfl
                try simp only [Act.put, List.setIfInBounds_toArray, List.set_cons_zero, List.set_cons_succ]
                refine wpAnyH_takeD (i := 5) (oi := _) (d := 174) (v := ?vkA5) rfl (by kernel_rfl) (by kernel_rfl) (by kernel_rfl) (by kernel_rfl) (fun _ _ _ h => h) (Or.inl ⟨by kernel_rfl, ?ykA5⟩) (by assumption) ?rkA5
                case ykA5 =>
                  intro w' hSw
                  try dsimp only at hSw
                  go_simp
                  try with_reducible rfl
                try simp only [Act.put, List.setIfInBounds_toArray, List.set_cons_zero, List.set_cons_succ]
                refine wpAnyH_takeD (i := 6) (oi := _) (d := 175) (v := ?vkA6) rfl (by kernel_rfl) (by kernel_rfl) (by kernel_rfl) (by kernel_rfl) (fun _ _ _ h => h) (Or.inl ⟨by kernel_rfl, ?ykA6⟩) (by assumption) ?rkA6
                case ykA6 =>
                  intro w' hSw
                  try dsimp only at hSw
                  go_simp
                  try with_reducible rfl
                try simp only [Act.put, List.setIfInBounds_toArray, List.set_cons_zero, List.set_cons_succ]
                refine wpAnyH_takeD (i := 7) (oi := _) (d := 176) (v := ?vkA7) rfl (by kernel_rfl) (by kernel_rfl) (by kernel_rfl) (by kernel_rfl) (fun _ _ _ h => h) (Or.inl ⟨by kernel_rfl, ?ykA7⟩) (by assumption) ?rkA7
                case ykA7 =>
                  intro w' hSw
                  try dsimp only at hSw
                  go_simp
                  try with_reducible rfl
                try simp only [Act.put, List.setIfInBounds_toArray, List.set_cons_zero, List.set_cons_succ]
                refine wpAnyH_takeD (i := 8) (oi := _) (d := 177) (v := ?vkA8) rfl (by kernel_rfl) (by kernel_rfl) (by kernel_rfl) (by kernel_rfl) (fun _ _ _ h => h) (Or.inl ⟨by kernel_rfl, ?ykA8⟩) (by assumption) ?rkA8
                case ykA8 =>
                  intro w' hSw
                  try dsimp only at hSw
                  go_simp
                  try with_reducible rfl
                try simp only [Act.put, List.setIfInBounds_toArray, List.set_cons_zero, List.set_cons_succ]
                refine wpAnyH_takeD (i := 9) (oi := _) (d := 178) (v := ?vkA9) rfl (by kernel_rfl) (by kernel_rfl) (by kernel_rfl) (by kernel_rfl) (fun _ _ _ h => h) (Or.inl ⟨by kernel_rfl, ?ykA9⟩) (by assumption) ?rkA9
                case ykA9 =>
                  intro w' hSw
                  try dsimp only at hSw
                  go_simp
                  try with_reducible rfl
                try simp only [Act.put, List.setIfInBounds_toArray, List.set_cons_zero, List.set_cons_succ]
                refine wpAnyH_takeD (i := 10) (oi := _) (d := 179) (v := ?vkA10) rfl (by kernel_rfl) (by kernel_rfl) (by kernel_rfl) (by kernel_rfl) (fun _ _ _ h => h) (Or.inl ⟨by kernel_rfl, ?ykA10⟩) (by assumption) ?rkA10
                case ykA10 =>
                  intro w' hSw
                  try dsimp only at hSw
                  go_simp
                  try with_reducible rfl
                try simp only [Act.put, List.setIfInBounds_toArray, List.set_cons_zero, List.set_cons_succ]
                refine wpAnyH_takeD (i := 11) (oi := _) (d := 180) (v := ?vkA11) rfl (by kernel_rfl) (by kernel_rfl) (by kernel_rfl) (by kernel_rfl) (fun _ _ _ h => h) (Or.inl ⟨by kernel_rfl, ?ykA11⟩) (by assumption) ?rkA11
                case ykA11 =>
                  intro w' hSw
                  obtain ⟨sA, sB⟩ := hSw
                  have e0 := (sB h27).1
                  have e1 := (sB h27).2.1
                  have e2 := (sB h27).2.2
                  go_simp
                  try with_reducible rfl
                try simp only [Act.put, List.setIfInBounds_toArray, List.set_cons_zero, List.set_cons_succ]
                refine wpAnyH_ready (rs := [12]) (by kernel_rfl) (by simp) ?_
                refine AllReadyH.cons (o := _) rfl (fun K hK => ?_) AllReadyH.nil
                go_simp
                go_at_call 16
                refine (Hwr.out _ HMd.out h2).mono ?_
                rintro e wk ⟨rfl, hMk, hTk⟩
                have HMk := Lib.hid hMk
                have Hkk := Lib.hid (Hkd.out.turn hTk)
                have kwk := (HKS.out _ Hkk.out).1 h2
                clear hMk hTk
                refine hK.out _ _ kwk (fun _ => ?_)
                clear hK K
                try simp only [Act.put, List.setIfInBounds_toArray, List.set_cons_zero, List.set_cons_succ]
                refine wpAnyH_takeD (i := 13) (oi := _) (d := 182) (v := ?vkA13) rfl (by kernel_rfl) (by kernel_rfl) (by kernel_rfl) (by kernel_rfl) (fun _ _ _ h => h) (Or.inl ⟨by kernel_rfl, ?ykA13⟩) (by assumption) ?rkA13
                case ykA13 =>
                  intro w' hSw
                  try dsimp only at hSw
                  go_simp
                  try with_reducible rfl
                try simp only [Act.put, List.setIfInBounds_toArray, List.set_cons_zero, List.set_cons_succ]
                refine wpAnyH_takeD (i := 14) (oi := _) (d := 183) (v := ?vkA14) rfl (by kernel_rfl) (by kernel_rfl) (by kernel_rfl) (by kernel_rfl) (fun _ _ _ h => h) (Or.inl ⟨by kernel_rfl, ?ykA14⟩) (by assumption) ?rkA14
                case ykA14 =>
                  intro w' hSw
                  try dsimp only at hSw
                  go_simp
                  try with_reducible rfl
                try simp only [Act.put, List.setIfInBounds_toArray, List.set_cons_zero, List.set_cons_succ]
                refine wpAnyH_takeD (i := 15) (oi := _) (d := 184) (v := ?vkA15) rfl (by kernel_rfl) (by kernel_rfl) (by kernel_rfl) (by kernel_rfl) (fun _ _ _ h => h) (Or.inl ⟨by kernel_rfl, ?ykA15⟩) (by assumption) ?rkA15
                case ykA15 =>
                  intro w' hSw
                  try dsimp only at hSw
                  go_simp
                  try with_reducible rfl
                try simp only [Act.put, List.setIfInBounds_toArray, List.set_cons_zero, List.set_cons_succ]
                refine wpAnyH_takeD (i := 16) (oi := _) (d := 185) (v := ?vkA16) rfl (by kernel_rfl) (by kernel_rfl) (by kernel_rfl) (by kernel_rfl) (fun _ _ _ h => h) (Or.inl ⟨by kernel_rfl, ?ykA16⟩) (by assumption) ?rkA16
                case ykA16 =>
                  intro w' hSw
                  try dsimp only at hSw
                  go_simp
                  try with_reducible rfl
                try simp only [Act.put, List.setIfInBounds_toArray, List.set_cons_zero, List.set_cons_succ]
                refine wpAnyH_takeD (i := 17) (oi := _) (d := 186) (v := ?vkA17) rfl (by kernel_rfl) (by kernel_rfl) (by kernel_rfl) (by kernel_rfl) (fun _ _ _ h => h) (Or.inl ⟨by kernel_rfl, ?ykA17⟩) (by assumption) ?rkA17
                case ykA17 =>
                  intro w' hSw
                  try dsimp only at hSw
                  go_simp
                  try with_reducible rfl
                try simp only [Act.put, List.setIfInBounds_toArray, List.set_cons_zero, List.set_cons_succ]
                refine wpAnyH_takeD (i := 18) (oi := _) (d := 187) (v := ?vkA18) rfl (by kernel_rfl) (by kernel_rfl) (by kernel_rfl) (by kernel_rfl) (fun _ _ _ h => h) (Or.inl ⟨by kernel_rfl, ?ykA18⟩) (by assumption) ?rkA18
                case ykA18 =>
                  intro w' hSw
                  try dsimp only at hSw
                  go_simp
                  try with_reducible rfl
                try simp only [Act.put, List.setIfInBounds_toArray, List.set_cons_zero, List.set_cons_succ]
                refine wpAnyH_takeD (i := 19) (oi := _) (d := 188) (v := ?vkA19) rfl (by kernel_rfl) (by kernel_rfl) (by kernel_rfl) (by kernel_rfl) (fun _ _ _ h => h) (Or.inl ⟨by kernel_rfl, ?ykA19⟩) (by assumption) ?rkA19
                case ykA19 =>
                  intro w' hSw
                  try dsimp only at hSw
                  go_simp
                  try with_reducible rfl
                try simp only [Act.put, List.setIfInBounds_toArray, List.set_cons_zero, List.set_cons_succ]
                refine wpAnyH_takeD (i := 20) (oi := _) (d := 189) (v := ?vkA20) rfl (by kernel_rfl) (by kernel_rfl) (by kernel_rfl) (by kernel_rfl) (fun _ _ _ h => h) (Or.inl ⟨by kernel_rfl, ?ykA20⟩) (by assumption) ?rkA20
                case ykA20 =>
                  intro w' hSw
                  try dsimp only at hSw
                  go_simp
                  try with_reducible rfl
                try simp only [Act.put, List.setIfInBounds_toArray, List.set_cons_zero, List.set_cons_succ]
                refine wpAnyH_takeD (i := 21) (oi := _) (d := 190) (v := ?vkA21) rfl (by kernel_rfl) (by kernel_rfl) (by kernel_rfl) (by kernel_rfl) (fun _ _ _ h => h) (Or.inl ⟨by kernel_rfl, ?ykA21⟩) (by assumption) ?rkA21
                case ykA21 =>
                  intro w' hSw
                  obtain ⟨sA, sB⟩ := hSw
                  have e0 := sA.1
                  have e1 := sA.2.1
                  have e2 := sA.2.2
                  go_simp
                  try with_reducible rfl
                try simp only [Act.put, List.setIfInBounds_toArray, List.set_cons_zero, List.set_cons_succ]
                refine wpAnyH_takeD (i := 22) (oi := _) (d := 191) (v := ?vkA22) rfl (by kernel_rfl) (by kernel_rfl) (by kernel_rfl) (by kernel_rfl) (fun _ _ _ h => h) (Or.inl ⟨by kernel_rfl, ?ykA22⟩) (by assumption) ?rkA22
                case ykA22 =>
                  intro w' hSw
                  try dsimp only at hSw
                  go_simp
                  try with_reducible rfl
                try simp only [Act.put, List.setIfInBounds_toArray, List.set_cons_zero, List.set_cons_succ]
                refine wpAnyH_ready (rs := [23]) (by kernel_rfl) (by simp) ?_
                refine AllReadyH.cons (o := _) rfl (fun K hK => ?_) AllReadyH.nil
                go_simp
                go_at_call 11
                refine (Hkey.out _).mono ?_
                rintro e wy ⟨rfl, hby⟩
                have HMy := Lib.hid (HMk.out.keep hby)
                have Hky := Lib.hid (Hkk.out.below hby)
                have kwy := (HKS.out _ Hky.out).1 h2
                clear hby
                refine hK.out _ _ kwy (fun _ => ?_)
                clear hK K
                try simp only [Act.put, List.setIfInBounds_toArray, List.set_cons_zero, List.set_cons_succ]
                refine wpAnyH_takeD (i := 24) (oi := _) (d := 193) (v := ?vkA24) rfl (by kernel_rfl) (by kernel_rfl) (by kernel_rfl) (by kernel_rfl) (fun _ _ _ h => h) (Or.inl ⟨by kernel_rfl, ?ykA24⟩) (by assumption) ?rkA24
                case ykA24 =>
                  intro w' hSw
                  try dsimp only at hSw
                  go_simp
                  try with_reducible rfl
                try simp only [Act.put, List.setIfInBounds_toArray, List.set_cons_zero, List.set_cons_succ]
                refine wpAnyH_takeD (i := 25) (oi := _) (d := 194) (v := ?vkA25) rfl (by kernel_rfl) (by kernel_rfl) (by kernel_rfl) (by kernel_rfl) (fun _ _ _ h => h) (Or.inl ⟨by kernel_rfl, ?ykA25⟩) (by assumption) ?rkA25
                case ykA25 =>
                  intro w' hSw
                  try dsimp only at hSw
                  go_simp
                  try with_reducible rfl
                try simp only [Act.put, List.setIfInBounds_toArray, List.set_cons_zero, List.set_cons_succ]
                refine wpAnyH_takeD (i := 26) (oi := _) (d := 195) (v := ?vkA26) rfl (by kernel_rfl) (by kernel_rfl) (by kernel_rfl) (by kernel_rfl) (fun _ _ _ h => h) (Or.inl ⟨by kernel_rfl, ?ykA26⟩) (by assumption) ?rkA26
                case ykA26 =>
                  intro w' hSw
                  try dsimp only at hSw
                  go_simp
                  try with_reducible rfl
                try simp only [Act.put, List.setIfInBounds_toArray, List.set_cons_zero, List.set_cons_succ]
                refine wpAnyH_takeD (i := 27) (oi := _) (d := 196) (v := ?vkA27) rfl (by kernel_rfl) (by kernel_rfl) (by kernel_rfl) (by kernel_rfl) (fun _ _ _ h => h) (Or.inl ⟨by kernel_rfl, ?ykA27⟩) (by assumption) ?rkA27
                case ykA27 =>
                  intro w' hSw
                  try dsimp only at hSw
                  go_simp
                  try with_reducible rfl
                try simp only [Act.put, List.setIfInBounds_toArray, List.set_cons_zero, List.set_cons_succ]
                refine wpAnyH_takeD (i := 28) (oi := _) (d := 197) (v := ?vkA28) rfl (by kernel_rfl) (by kernel_rfl) (by kernel_rfl) (by kernel_rfl) (fun _ _ _ h => h) (Or.inl ⟨by kernel_rfl, ?ykA28⟩) (by assumption) ?rkA28
                case ykA28 =>
                  intro w' hSw
                  try dsimp only at hSw
                  go_simp
                  try with_reducible rfl
                try simp only [Act.put, List.setIfInBounds_toArray, List.set_cons_zero, List.set_cons_succ]
                refine wpAnyH_takeD (i := 29) (oi := _) (d := 198) (v := ?vkA29) rfl (by kernel_rfl) (by kernel_rfl) (by kernel_rfl) (by kernel_rfl) (fun _ _ _ h => h) (Or.inl ⟨by kernel_rfl, ?ykA29⟩) (by assumption) ?rkA29
                case ykA29 =>
                  intro w' hSw
                  try dsimp only at hSw
                  go_simp
                  try with_reducible rfl
                try simp only [Act.put, List.setIfInBounds_toArray, List.set_cons_zero, List.set_cons_succ]
                refine wpAnyH_takeD (i := 30) (oi := _) (d := 199) (v := ?vkA30) rfl (by kernel_rfl) (by kernel_rfl) (by kernel_rfl) (by kernel_rfl) (fun _ _ _ h => h) (Or.inl ⟨by kernel_rfl, ?ykA30⟩) (by assumption) ?rkA30
                case ykA30 =>
                  intro w' hSw
                  try dsimp only at hSw
                  go_simp
                  try with_reducible rfl
                try simp only [Act.put, List.setIfInBounds_toArray, List.set_cons_zero, List.set_cons_succ]
                refine wpAnyH_takeD (i := 31) (oi := _) (d := 200) (v := ?vkA31) rfl (by kernel_rfl) (by kernel_rfl) (by kernel_rfl) (by kernel_rfl) (fun _ _ _ h => h) (Or.inl ⟨by kernel_rfl, ?ykA31⟩) (by assumption) ?rkA31
                case ykA31 =>
                  intro w' hSw
                  try dsimp only at hSw
                  go_simp
                  try with_reducible rfl
                try simp only [Act.put, List.setIfInBounds_toArray, List.set_cons_zero, List.set_cons_succ]
                refine wpAnyH_takeD (i := 32) (oi := _) (d := 201) (v := ?vkA32) rfl (by kernel_rfl) (by kernel_rfl) (by kernel_rfl) (by kernel_rfl) (fun _ _ _ h => h) (Or.inl ⟨by kernel_rfl, ?ykA32⟩) (by assumption) ?rkA32
                case ykA32 =>
                  intro w' hSw
                  obtain ⟨sA, sB⟩ := hSw
                  have e0 := sA.1
                  have e1 := sA.2.1
                  have e2 := sA.2.2
                  go_simp
                  try with_reducible rfl
                try simp only [Act.put, List.setIfInBounds_toArray, List.set_cons_zero, List.set_cons_succ]
                refine wpAnyH_ready (rs := [33]) (by kernel_rfl) (by simp) ?_
                refine AllReadyH.cons (o := _) rfl (fun K hK => ?_) AllReadyH.nil
                go_simp
                go_at_call 16
                refine (Hrg.out _ HMy.out).mono ?_
                rintro e wz ⟨rfl, T3, hK3, hMz, hTz⟩
                have HKn := Lib.hid hK3
                have HMn := Lib.hid hMz
                have Hkn := Lib.hid (Hky.out.turn hTz)
                have kwz := (HKS.out _ Hkn.out).1 h2
                clear hK3 hMz hTz
                refine hK.out _ _ kwz (fun _ => ?_)
                clear hK K
                try simp only [Act.put, List.setIfInBounds_toArray, List.set_cons_zero, List.set_cons_succ]
                refine wpAnyH_takeD (i := 34) (oi := _) (d := 203) (v := ?vkA34) rfl (by kernel_rfl) (by kernel_rfl) (by kernel_rfl) (by kernel_rfl) (fun _ _ _ h => h) (Or.inl ⟨by kernel_rfl, ?ykA34⟩) (by assumption) ?rkA34
                case ykA34 =>
                  intro w' hSw
                  try dsimp only at hSw
                  go_simp
                  try with_reducible rfl
                try simp only [Act.put, List.setIfInBounds_toArray, List.set_cons_zero, List.set_cons_succ]
                refine wpAnyH_takeD (i := 35) (oi := _) (d := 204) (v := ?vkA35) rfl (by kernel_rfl) (by kernel_rfl) (by kernel_rfl) (by kernel_rfl) (fun _ _ _ h => h) (Or.inl ⟨by kernel_rfl, ?ykA35⟩) (by assumption) ?rkA35
                case ykA35 =>
                  intro w' hSw
                  try dsimp only at hSw
                  go_simp
                  try with_reducible rfl
                try simp only [Act.put, List.setIfInBounds_toArray, List.set_cons_zero, List.set_cons_succ]
                refine wpAnyH_done (by kernel_rfl) ?_ _
                go_wp2_with fail
                go_roundg (gk - 1)
                case measure => have := Hi.out; omega
                case rel => exact ⟨i + 1, T3, by have := Hi.out; omega, by go_num, HKn.out, HMn.out, Hkn.out⟩
              · have h2i : ¬ (i : Int) + 1 < (N : Int) := by omega
                have h2t : decide ((i : Int) + 1 < (N : Int)) = false := decide_eq_false h2i
                go_upto_region 33 with fail
                have HMk := Lib.hid (HM.out.keep (Below.refl wr.heap.size wr).drew)
                have Hkk := Lib.hid (Hk.out.below (Below.refl wr.heap.size wr).drew)
                have k0 := (HKS.out _ Hkk.out).2
                refine wp_region_held_drew (S := KillS gl i 700) (by kernel_rfl) k0 (fun hHeld => ?_)
                refine wpAnyH_takeD (i := 0) (oi := _) (d := 169) (v := ?vkB0) rfl (by kernel_rfl) (by kernel_rfl) (by kernel_rfl) (by kernel_rfl) (fun _ _ _ h => h) (Or.inl ⟨by kernel_rfl, ?ykB0⟩) (by assumption) ?rkB0
                case ykB0 =>
                  intro w' hSw
                  try dsimp only at hSw
                  go_simp
                  try with_reducible rfl
                try simp only [Act.put, List.setIfInBounds_toArray, List.set_cons_zero, List.set_cons_succ]
                refine wpAnyH_takeD (i := 1) (oi := _) (d := 170) (v := ?vkB1) rfl (by kernel_rfl) (by kernel_rfl) (by kernel_rfl) (by kernel_rfl) (fun _ _ _ h => h) (Or.inl ⟨by kernel_rfl, ?ykB1⟩) (by assumption) ?rkB1
                case ykB1 =>
                  intro w' hSw
                  try dsimp only at hSw
                  go_simp
                  try with_reducible rfl
                try simp only [Act.put, List.setIfInBounds_toArray, List.set_cons_zero, List.set_cons_succ]
                refine wpAnyH_takeD (i := 2) (oi := _) (d := 171) (v := ?vkB2) rfl (by kernel_rfl) (by kernel_rfl) (by kernel_rfl) (by kernel_rfl) (fun _ _ _ h => h) (Or.inl ⟨by kernel_rfl, ?ykB2⟩) (by assumption) ?rkB2
                case ykB2 =>
                  intro w' hSw
                  try dsimp only at hSw
                  go_simp
                  try with_reducible rfl
                try simp only [Act.put, List.setIfInBounds_toArray, List.set_cons_zero, List.set_cons_succ]
                refine wpAnyH_takeD (i := 3) (oi := _) (d := 172) (v := ?vkB3) rfl (by kernel_rfl) (by kernel_rfl) (by kernel_rfl) (by kernel_rfl) (fun _ _ _ h => h) (Or.inl ⟨by kernel_rfl, ?ykB3⟩) (by assumption) ?rkB3
                case ykB3 =>
                  intro w' hSw
                  try dsimp only at hSw
                  go_simp
                  try with_reducible rfl
                try simp only [Act.put, List.setIfInBounds_toArray, List.set_cons_zero, List.set_cons_succ]
                refine wpAnyH_takeD (i := 4) (oi := _) (d := 173) (v := ?vkB4) rfl (by kernel_rfl) (by kernel_rfl) (by kernel_rfl) (by kernel_rfl) (fun _ _ _ h => h) (Or.inl ⟨by kernel_rfl, ?ykB4⟩) (by assumption) ?rkB4
                case ykB4 =>
                  intro w' hSw
                  try dsimp only at hSw
                  go_simp
                  try with_reducible rfl
                try simp only [Act.put, List.setIfInBounds_toArray, List.set_cons_zero, List.set_cons_succ]
                refine wpAnyH_takeD (i := 5) (oi := _) (d := 174) (v := undef) rfl (by kernel_rfl) (by kernel_rfl) (by kernel_rfl) (by kernel_rfl) (fun _ _ _ h => h) (Or.inr ⟨by kernel_rfl, rfl⟩) (by assumption) ?_
                try simp only [Act.put, List.setIfInBounds_toArray, List.set_cons_zero, List.set_cons_succ]
                refine wpAnyH_takeD (i := 6) (oi := _) (d := 175) (v := undef) rfl (by kernel_rfl) (by kernel_rfl) (by kernel_rfl) (by kernel_rfl) (fun _ _ _ h => h) (Or.inr ⟨by kernel_rfl, rfl⟩) (by assumption) ?_
                try simp only [Act.put, List.setIfInBounds_toArray, List.set_cons_zero, List.set_cons_succ]
                refine wpAnyH_takeD (i := 7) (oi := _) (d := 176) (v := undef) rfl (by kernel_rfl) (by kernel_rfl) (by kernel_rfl) (by kernel_rfl) (fun _ _ _ h => h) (Or.inr ⟨by kernel_rfl, rfl⟩) (by assumption) ?_
                try simp only [Act.put, List.setIfInBounds_toArray, List.set_cons_zero, List.set_cons_succ]
                refine wpAnyH_takeD (i := 8) (oi := _) (d := 177) (v := undef) rfl (by kernel_rfl) (by kernel_rfl) (by kernel_rfl) (by kernel_rfl) (fun _ _ _ h => h) (Or.inr ⟨by kernel_rfl, rfl⟩) (by assumption) ?_
                try simp only [Act.put, List.setIfInBounds_toArray, List.set_cons_zero, List.set_cons_succ]
                refine wpAnyH_takeD (i := 9) (oi := _) (d := 178) (v := undef) rfl (by kernel_rfl) (by kernel_rfl) (by kernel_rfl) (by kernel_rfl) (fun _ _ _ h => h) (Or.inr ⟨by kernel_rfl, rfl⟩) (by assumption) ?_
                try simp only [Act.put, List.setIfInBounds_toArray, List.set_cons_zero, List.set_cons_succ]
                refine wpAnyH_takeD (i := 10) (oi := _) (d := 179) (v := undef) rfl (by kernel_rfl) (by kernel_rfl) (by kernel_rfl) (by kernel_rfl) (fun _ _ _ h => h) (Or.inr ⟨by kernel_rfl, rfl⟩) (by assumption) ?_
                try simp only [Act.put, List.setIfInBounds_toArray, List.set_cons_zero, List.set_cons_succ]
                refine wpAnyH_takeD (i := 11) (oi := _) (d := 180) (v := undef) rfl (by kernel_rfl) (by kernel_rfl) (by kernel_rfl) (by kernel_rfl) (fun _ _ _ h => h) (Or.inr ⟨by kernel_rfl, rfl⟩) (by assumption) ?_
                try simp only [Act.put, List.setIfInBounds_toArray, List.set_cons_zero, List.set_cons_succ]
                refine wpAnyH_takeD (i := 12) (oi := _) (d := 181) (v := undef) rfl (by kernel_rfl) (by kernel_rfl) (by kernel_rfl) (by kernel_rfl) (fun _ _ _ h => h) (Or.inr ⟨by kernel_rfl, rfl⟩) (by assumption) ?_
                try simp only [Act.put, List.setIfInBounds_toArray, List.set_cons_zero, List.set_cons_succ]
                refine wpAnyH_takeD (i := 13) (oi := _) (d := 182) (v := undef) rfl (by kernel_rfl) (by kernel_rfl) (by kernel_rfl) (by kernel_rfl) (fun _ _ _ h => h) (Or.inr ⟨by kernel_rfl, rfl⟩) (by assumption) ?_
                try simp only [Act.put, List.setIfInBounds_toArray, List.set_cons_zero, List.set_cons_succ]
                refine wpAnyH_takeD (i := 14) (oi := _) (d := 183) (v := ?vkB14) rfl (by kernel_rfl) (by kernel_rfl) (by kernel_rfl) (by kernel_rfl) (fun _ _ _ h => h) (Or.inl ⟨by kernel_rfl, ?ykB14⟩) (by assumption) ?rkB14
                case ykB14 =>
                  intro w' hSw
                  try dsimp only at hSw
                  go_simp
                  try with_reducible rfl
                try simp only [Act.put, List.setIfInBounds_toArray, List.set_cons_zero, List.set_cons_succ]
                refine wpAnyH_takeD (i := 15) (oi := _) (d := 184) (v := ?vkB15) rfl (by kernel_rfl) (by kernel_rfl) (by kernel_rfl) (by kernel_rfl) (fun _ _ _ h => h) (Or.inl ⟨by kernel_rfl, ?ykB15⟩) (by assumption) ?rkB15
                case ykB15 =>
                  intro w' hSw
                  try dsimp only at hSw
                  go_simp
                  try with_reducible rfl
                try simp only [Act.put, List.setIfInBounds_toArray, List.set_cons_zero, List.set_cons_succ]
                refine wpAnyH_takeD (i := 16) (oi := _) (d := 185) (v := ?vkB16) rfl (by kernel_rfl) (by kernel_rfl) (by kernel_rfl) (by kernel_rfl) (fun _ _ _ h => h) (Or.inl ⟨by kernel_rfl, ?ykB16⟩) (by assumption) ?rkB16
                case ykB16 =>
                  intro w' hSw
                  try dsimp only at hSw
                  go_simp
                  try with_reducible rfl
                try simp only [Act.put, List.setIfInBounds_toArray, List.set_cons_zero, List.set_cons_succ]
                refine wpAnyH_takeD (i := 17) (oi := _) (d := 186) (v := ?vkB17) rfl (by kernel_rfl) (by kernel_rfl) (by kernel_rfl) (by kernel_rfl) (fun _ _ _ h => h) (Or.inl ⟨by kernel_rfl, ?ykB17⟩) (by assumption) ?rkB17
                case ykB17 =>
                  intro w' hSw
                  try dsimp only at hSw
                  go_simp
                  try with_reducible rfl
                try simp only [Act.put, List.setIfInBounds_toArray, List.set_cons_zero, List.set_cons_succ]
                refine wpAnyH_takeD (i := 18) (oi := _) (d := 187) (v := ?vkB18) rfl (by kernel_rfl) (by kernel_rfl) (by kernel_rfl) (by kernel_rfl) (fun _ _ _ h => h) (Or.inl ⟨by kernel_rfl, ?ykB18⟩) (by assumption) ?rkB18
                case ykB18 =>
                  intro w' hSw
                  try dsimp only at hSw
                  go_simp
                  try with_reducible rfl
                try simp only [Act.put, List.setIfInBounds_toArray, List.set_cons_zero, List.set_cons_succ]
                refine wpAnyH_takeD (i := 19) (oi := _) (d := 188) (v := ?vkB19) rfl (by kernel_rfl) (by kernel_rfl) (by kernel_rfl) (by kernel_rfl) (fun _ _ _ h => h) (Or.inl ⟨by kernel_rfl, ?ykB19⟩) (by assumption) ?rkB19
                case ykB19 =>
                  intro w' hSw
                  try dsimp only at hSw
                  go_simp
                  try with_reducible rfl
                try simp only [Act.put, List.setIfInBounds_toArray, List.set_cons_zero, List.set_cons_succ]
                refine wpAnyH_takeD (i := 20) (oi := _) (d := 189) (v := ?vkB20) rfl (by kernel_rfl) (by kernel_rfl) (by kernel_rfl) (by kernel_rfl) (fun _ _ _ h => h) (Or.inl ⟨by kernel_rfl, ?ykB20⟩) (by assumption) ?rkB20
                case ykB20 =>
                  intro w' hSw
                  try dsimp only at hSw
                  go_simp
                  try with_reducible rfl
                try simp only [Act.put, List.setIfInBounds_toArray, List.set_cons_zero, List.set_cons_succ]
                refine wpAnyH_takeD (i := 21) (oi := _) (d := 190) (v := ?vkB21) rfl (by kernel_rfl) (by kernel_rfl) (by kernel_rfl) (by kernel_rfl) (fun _ _ _ h => h) (Or.inl ⟨by kernel_rfl, ?ykB21⟩) (by assumption) ?rkB21
                case ykB21 =>
                  intro w' hSw
                  obtain ⟨sA, sB⟩ := hSw
                  have e0 := sA.1
                  have e1 := sA.2.1
                  have e2 := sA.2.2
                  go_simp
                  try with_reducible rfl
                try simp only [Act.put, List.setIfInBounds_toArray, List.set_cons_zero, List.set_cons_succ]
                refine wpAnyH_takeD (i := 22) (oi := _) (d := 191) (v := ?vkB22) rfl (by kernel_rfl) (by kernel_rfl) (by kernel_rfl) (by kernel_rfl) (fun _ _ _ h => h) (Or.inl ⟨by kernel_rfl, ?ykB22⟩) (by assumption) ?rkB22
                case ykB22 =>
                  intro w' hSw
                  try dsimp only at hSw
                  go_simp
                  try with_reducible rfl
                try simp only [Act.put, List.setIfInBounds_toArray, List.set_cons_zero, List.set_cons_succ]
                refine wpAnyH_ready (rs := [23]) (by kernel_rfl) (by simp) ?_
                refine AllReadyH.cons (o := _) rfl (fun K hK => ?_) AllReadyH.nil
                go_simp
                go_at_call 11
                refine (Hkey.out _).mono ?_
                rintro e wy ⟨rfl, hby⟩
                have HMy := Lib.hid (HMk.out.keep hby)
                have Hky := Lib.hid (Hkk.out.below hby)
                have kwy := (HKS.out _ Hky.out).2
                clear hby
                refine hK.out _ _ kwy (fun _ => ?_)
                clear hK K
                try simp only [Act.put, List.setIfInBounds_toArray, List.set_cons_zero, List.set_cons_succ]
                refine wpAnyH_takeD (i := 24) (oi := _) (d := 193) (v := ?vkB24) rfl (by kernel_rfl) (by kernel_rfl) (by kernel_rfl) (by kernel_rfl) (fun _ _ _ h => h) (Or.inl ⟨by kernel_rfl, ?ykB24⟩) (by assumption) ?rkB24
                case ykB24 =>
                  intro w' hSw
                  try dsimp only at hSw
                  go_simp
                  try with_reducible rfl
                try simp only [Act.put, List.setIfInBounds_toArray, List.set_cons_zero, List.set_cons_succ]
                refine wpAnyH_takeD (i := 25) (oi := _) (d := 194) (v := ?vkB25) rfl (by kernel_rfl) (by kernel_rfl) (by kernel_rfl) (by kernel_rfl) (fun _ _ _ h => h) (Or.inl ⟨by kernel_rfl, ?ykB25⟩) (by assumption) ?rkB25
                case ykB25 =>
                  intro w' hSw
                  try dsimp only at hSw
                  go_simp
                  try with_reducible rfl
                try simp only [Act.put, List.setIfInBounds_toArray, List.set_cons_zero, List.set_cons_succ]
                refine wpAnyH_takeD (i := 26) (oi := _) (d := 195) (v := ?vkB26) rfl (by kernel_rfl) (by kernel_rfl) (by kernel_rfl) (by kernel_rfl) (fun _ _ _ h => h) (Or.inl ⟨by kernel_rfl, ?ykB26⟩) (by assumption) ?rkB26
                case ykB26 =>
                  intro w' hSw
                  try dsimp only at hSw
                  go_simp
                  try with_reducible rfl
                try simp only [Act.put, List.setIfInBounds_toArray, List.set_cons_zero, List.set_cons_succ]
                refine wpAnyH_takeD (i := 27) (oi := _) (d := 196) (v := ?vkB27) rfl (by kernel_rfl) (by kernel_rfl) (by kernel_rfl) (by kernel_rfl) (fun _ _ _ h => h) (Or.inl ⟨by kernel_rfl, ?ykB27⟩) (by assumption) ?rkB27
                case ykB27 =>
                  intro w' hSw
                  try dsimp only at hSw
                  go_simp
                  try with_reducible rfl
                try simp only [Act.put, List.setIfInBounds_toArray, List.set_cons_zero, List.set_cons_succ]
                refine wpAnyH_takeD (i := 28) (oi := _) (d := 197) (v := ?vkB28) rfl (by kernel_rfl) (by kernel_rfl) (by kernel_rfl) (by kernel_rfl) (fun _ _ _ h => h) (Or.inl ⟨by kernel_rfl, ?ykB28⟩) (by assumption) ?rkB28
                case ykB28 =>
                  intro w' hSw
                  try dsimp only at hSw
                  go_simp
                  try with_reducible rfl
                try simp only [Act.put, List.setIfInBounds_toArray, List.set_cons_zero, List.set_cons_succ]
                refine wpAnyH_takeD (i := 29) (oi := _) (d := 198) (v := ?vkB29) rfl (by kernel_rfl) (by kernel_rfl) (by kernel_rfl) (by kernel_rfl) (fun _ _ _ h => h) (Or.inl ⟨by kernel_rfl, ?ykB29⟩) (by assumption) ?rkB29
                case ykB29 =>
                  intro w' hSw
                  try dsimp only at hSw
                  go_simp
                  try with_reducible rfl
                try simp only [Act.put, List.setIfInBounds_toArray, List.set_cons_zero, List.set_cons_succ]
                refine wpAnyH_takeD (i := 30) (oi := _) (d := 199) (v := ?vkB30) rfl (by kernel_rfl) (by kernel_rfl) (by kernel_rfl) (by kernel_rfl) (fun _ _ _ h => h) (Or.inl ⟨by kernel_rfl, ?ykB30⟩) (by assumption) ?rkB30
                case ykB30 =>
                  intro w' hSw
                  try dsimp only at hSw
                  go_simp
                  try with_reducible rfl
                try simp only [Act.put, List.setIfInBounds_toArray, List.set_cons_zero, List.set_cons_succ]
                refine wpAnyH_takeD (i := 31) (oi := _) (d := 200) (v := ?vkB31) rfl (by kernel_rfl) (by kernel_rfl) (by kernel_rfl) (by kernel_rfl) (fun _ _ _ h => h) (Or.inl ⟨by kernel_rfl, ?ykB31⟩) (by assumption) ?rkB31
                case ykB31 =>
                  intro w' hSw
                  try dsimp only at hSw
                  go_simp
                  try with_reducible rfl
                try simp only [Act.put, List.setIfInBounds_toArray, List.set_cons_zero, List.set_cons_succ]
                refine wpAnyH_takeD (i := 32) (oi := _) (d := 201) (v := ?vkB32) rfl (by kernel_rfl) (by kernel_rfl) (by kernel_rfl) (by kernel_rfl) (fun _ _ _ h => h) (Or.inl ⟨by kernel_rfl, ?ykB32⟩) (by assumption) ?rkB32
                case ykB32 =>
                  intro w' hSw
                  obtain ⟨sA, sB⟩ := hSw
                  have e0 := sA.1
                  have e1 := sA.2.1
                  have e2 := sA.2.2
                  go_simp
                  try with_reducible rfl
                try simp only [Act.put, List.setIfInBounds_toArray, List.set_cons_zero, List.set_cons_succ]
                refine wpAnyH_ready (rs := [33]) (by kernel_rfl) (by simp) ?_
                refine AllReadyH.cons (o := _) rfl (fun K hK => ?_) AllReadyH.nil
                go_simp
                go_at_call 16
                refine (Hrg.out _ HMy.out).mono ?_
                rintro e wz ⟨rfl, T3, hK3, hMz, hTz⟩
                have HKn := Lib.hid hK3
                have HMn := Lib.hid hMz
                have Hkn := Lib.hid (Hky.out.turn hTz)
                have kwz := (HKS.out _ Hkn.out).2
                clear hK3 hMz hTz
                refine hK.out _ _ kwz (fun _ => ?_)
                clear hK K
                try simp only [Act.put, List.setIfInBounds_toArray, List.set_cons_zero, List.set_cons_succ]
                refine wpAnyH_takeD (i := 34) (oi := _) (d := 203) (v := ?vkB34) rfl (by kernel_rfl) (by kernel_rfl) (by kernel_rfl) (by kernel_rfl) (fun _ _ _ h => h) (Or.inl ⟨by kernel_rfl, ?ykB34⟩) (by assumption) ?rkB34
                case ykB34 =>
                  intro w' hSw
                  try dsimp only at hSw
                  go_simp
                  try with_reducible rfl
                try simp only [Act.put, List.setIfInBounds_toArray, List.set_cons_zero, List.set_cons_succ]
                refine wpAnyH_takeD (i := 35) (oi := _) (d := 204) (v := ?vkB35) rfl (by kernel_rfl) (by kernel_rfl) (by kernel_rfl) (by kernel_rfl) (fun _ _ _ h => h) (Or.inl ⟨by kernel_rfl, ?ykB35⟩) (by assumption) ?rkB35
                case ykB35 =>
                  intro w' hSw
                  try dsimp only at hSw
                  go_simp
                  try with_reducible rfl
                try simp only [Act.put, List.setIfInBounds_toArray, List.set_cons_zero, List.set_cons_succ]
                refine wpAnyH_done (by kernel_rfl) ?_ _
                go_wp2_with fail
                go_roundg (gk - 1)
                case measure => have := Hi.out; omega
                case rel => exact ⟨i + 1, T3, by have := Hi.out; omega, by go_num, HKn.out, HMn.out, Hkn.out⟩
            · have hil : ¬ (i : Int) < (N : Int) := by omega
              have hiN : i = N := by have := Hi.out; omega
              rw [hiN] at HK
              go_wp2_with fail
              go_meet
              exact ⟨T, HK.out, HM.out⟩
      case rest =>
        obtain ⟨T, hK, hM⟩ := hcut
        have HK := Lib.hid hK
        have HM := Lib.hid hM
        clear hK hM HK2 HM7 Hk7
        have hnow := HM.out.md.inv.now
        rw [HK.out.now] at hnow
        obtain ⟨nw, hnw⟩ : ∃ nw : Nat, T1.now = (nw : Int) := ⟨T1.now.toNat, by omega⟩
        have hnw1 : 1 ≤ nw := by omega
        have hnw2 : nw ≤ 1000 := by have := HI1.out.now; omega
        have Hnw := Lib.hid hnw
        clear hnow hnw
        go_upto_block 6 with fail
        go_cut [20, 21, 22, 23, 24, 25] from 205 to 249 (fun s20 s21 s22 s23 s24 s25 wx => ∃ B : MB, MG W wx mp B T)
        case first =>
          as_aux_lemma =>
            go_wp2_with fail
            go_loopg [20, 21, 22, 23, 24, 25] S (fun g s20 s21 s22 s23 s24 s25 wr => ∃ (s : Nat) (B : MB), s + g = S ∧ s20 = .int .i64 ((s : Int) + 1) ∧ MG W wr mp B T)
            case atStart => exact ⟨0, B4, by omega, rfl, HM.out⟩
            case round =>
              obtain ⟨s, B5, hs, rfl, hM5⟩ := hrel
              have Hs := Lib.hid hs
              have HM5 := Lib.hid hM5
              clear hs hM5
              by_cases hlt : s < S
              · have hsl : (s : Int) + 1 ≤ (S : Int) := by omega
                have hst := HM5.out.stats
                rw [HK.out.L, gL_nil, HK.out.now, HK.out.cnt, HI1.out.cnt, Hnw.out] at hst
                have e0 : ((([] : List Rw).length : Nat) : Int) = 0 := rfl
                rw [e0] at hst
                dsimp only at hst
                clear e0
                have hfd : ∀ Wz : World, (Instr.field 39 (statV (N : Int) 0 0 0 0 (nw : Int)) 5).run Try.prog Wz = .ok (.int .i64 nw) Wz := fun _ => by kernel_rfl
                go_wp2_with fail
                refine hst.mono ?_
                rintro e w8 ⟨rfl, hM8, hb8⟩
                have HM8 := Lib.hid hM8
                clear hst hM8 hb8 HM5
                go_wp2_with fail
                clear hfd
                go_loopg [22, 23, 24, 25] (nw - 1) (fun g s22 s23 s24 s25 wr => ∃ (ep : Nat) (B6 : MB), ep + g = nw ∧ 1 ≤ ep ∧ s22 = .int .i64 ep ∧ MG W wr mp B6 T)
                case atStart => exact ⟨1, B5, by omega, Nat.le_refl _, rfl, HM8.out⟩
                case round =>
                  obtain ⟨ep, B6, hep, hep1, rfl, hM6⟩ := hrel
                  have Hep := Lib.hid hep
                  have HM6 := Lib.hid hM6
                  clear hep hM6
                  by_cases hel : ep < nw
                  · have heli : (ep : Int) < (nw : Int) := by omega
                    have hNm : ((N - 1 : Nat) : Int) = (N : Int) - 1 := by omega
                    have hkey := fun W' => key_any (N - 1) (by omega) W'
                    rw [hNm] at hkey
                    go_upto_region 43 with (first | (go_at_call 11; refine (hkey _).mono ?_; rintro e w9 ⟨rfl, hb9⟩; have HM9 := Lib.hid (HM6.out.keep hb9); clear hkey hb9) | (refine wpList_buildG (t := 48) rfl _ rfl (getG (ep : Int) (some ⟨w9.heap.size, 0, none⟩)) (by kernel_rfl) ?_))
                    generalize hWq : World.alloc (World.alloc w9 _) _ = wq
                    have hbq : Below w9.heap.size w9 wq := by rw [← hWq]; exact ((Below.refl _ _).alloc (Nat.le_refl _) _).alloc (by simp) _
                    have rq : wq.heap[w9.heap.size + 1]? = some (.cells (getG (ep : Int) (some ⟨w9.heap.size, 0, none⟩)) 48 (0, 0)) := by rw [← hWq]; exact blk_at (by simp)
                    have hqs : Sl 3 cellL wq (some ⟨w9.heap.size, 0, none⟩) [gC (N - 1)] := by
                      rw [← hWq]
                      exact (sl_new (sz := 3) (enc := cellL) (gC (N - 1)) w9 46 (cs := #[.int .i64 0, .string (kG (N - 1)), .int .i64 0]) rfl).below ((Below.refl _ _).alloc (Nat.le_refl _) _)
                    have HMq := HM9.out.keep hbq
                    have hget := HMq.get (n := N) (s := (s : Int) + 1) (e := (ep : Int)) (by rw [HK.out.L, gL_nil]; exact Nat.zero_le _) (fun e L hL => by
                      rw [HK.out.seals] at hL
                      have := HI1.out.seals e L hL
                      exact ⟨this.1, by omega⟩) (by omega) (by omega) (by omega) (by rw [HK.out.now, Hnw.out]; omega) (some ⟨w9.heap.size, 0, none⟩) hqs
                    have Rq := Lib.hid rq
                    clear hWq hbq rq hqs HMq HM9 HM6
                    go_upto_region 44 with (first | (refine wpList_load_row rfl 48 _ rfl (w9.heap.size + 1) rfl _ _ (0, 0) _ Rq.out Try.underlying48 rfl (by kernel_rfl) ?_) | (go_at_call 12; refine hget.mono ?_; rintro e wA ⟨k, er, rows, ga, gcap, B7, rfl, hkr, hor, hM7⟩; have HM7 := Lib.hid hM7; have Hor := Lib.hid hor; have Hkr := Lib.hid hkr; clear hget hor hM7 hkr))
                    generalize hWr : World.alloc wA _ = wr2
                    have hbr : Below wA.heap.size wA wr2 := by rw [← hWr]; exact (Below.refl _ _).alloc (Nat.le_refl _) _
                    have rr : wr2.heap[wA.heap.size]? = some (.cells (respL k 0 er 0 (.slice ga rows.length gcap) 0 0 0 0 0 0) 41 (0, 0)) := by rw [← hWr]; exact blk_at rfl
                    have y0 := cell_blk rr 0
                    have y4 := cell_blk rr 4
                    simp at y0 y4
                    have HMr := Lib.hid (HM7.out.keep hbr)
                    have Hok := Lib.hid (Hor.out.below hbr)
                    clear hWr hbr rr HM7 Hor
                    rcases Hkr.out with ⟨rfl, rfl⟩ | ⟨rfl, rfl⟩
                    · go_wp2_with fail
                      go_roundg (gk - 1)
                      case measure => have := Hep.out; omega
                      case rel => exact ⟨ep + 1, B7, by have := Hep.out; omega, by omega, by go_num, HMr.out⟩
                    · obtain ⟨gg, rfl, _, _⟩ := Hok.out.pos (by simp)
                      obtain ⟨b8, o8, e8, _, hc8⟩ := (Hok.out.sl0 fun _ => rfl) 0 (by simp)
                      have z4 : wr2.cell? ⟨gg, 4, none⟩ = some (.int .i64 ((N : Int) - 1)) := by
                        injection e8 with e8
                        injection e8 with e1 e2
                        subst e1
                        subst e2
                        have h9 := hc8 4 (.int .i64 ((N - 1 : Nat) : Int)) rfl
                        rw [hNm] at h9
                        simpa using h9
                      clear hc8 e8
                      go_wp2_with fail
                      go_roundg (gk - 1)
                      case measure => have := Hep.out; omega
                      case rel => exact ⟨ep + 1, B7, by have := Hep.out; omega, by omega, by go_num, HMr.out⟩
                  · have heli : ¬ (ep : Int) < (nw : Int) := by omega
                    go_wp2_with fail
                    go_roundg (S - (s + 1))
                    case measure => have := Hs.out; omega
                    case rel => exact ⟨s + 1, B6, by have := Hs.out; omega, by go_num, HM6.out⟩
              · have hsl : ¬ (s : Int) + 1 ≤ (S : Int) := by omega
                go_wp2_with fail
                go_meet
                exact ⟨B5, HM5.out⟩
        case rest =>
          obtain ⟨B9, hM9⟩ := hcut
          have hmap := hM9.map (by rw [HK.out.L, gL_nil]; exact Nat.zero_le _)
          rw [HK.out.L, gL_nil] at hmap
          clear hM9 HM
          go_wp2_with fail
          refine hmap.mono ?_
          rintro e wa ⟨ma, mc, rfl, _, hMa, _⟩
          have hst := hMa.stats
          rw [HK.out.L, gL_nil, HK.out.now, HK.out.cnt, HI1.out.cnt, Hnw.out] at hst
          have e0 : ((([] : List Rw).length : Nat) : Int) = 0 := rfl
          rw [e0] at hst
          dsimp only at hst
          clear e0
          have hfd : ∀ Wz : World, (Instr.field 39 (statV (N : Int) 0 0 0 0 (nw : Int)) 0).run Try.prog Wz = .ok (.int .i64 N) Wz := fun _ => by kernel_rfl
          clear hmap hMa
          go_wp2_with fail
          refine hst.mono ?_
          rintro e wb ⟨rfl, hMb, _⟩
          have HMb := Lib.hid hMb
          clear hst hMb
          go_wp2_with fail
          refine (hhead _).mono ?_
          rintro e wd ⟨rfl, hbd⟩
          have HMd := Lib.hid (HMb.out.keep hbd)
          clear hbd hfd
          go_wp2_with fail
          go_ret
          exact ⟨rfl, HMd.out.below⟩
end Go.Proofs.Ytaicecnfodhlcaa
/- ModelGreat: the Go function 'spate/spatelaw19.ModelGreat' returns true and its arguments read afterwards as before, in every world. Conditions: none. -/
set_option linter.unusedVariables false
namespace Go.Proofs.Ytaicecnfodhlcaa.modelGreat
open Go.ChangeShapes Go.WideShapes Go.ChangeAt Go.RowKit Go.ChangeMaps

theorem own : ownKnob Try.prog.godebug = none := by kernel_rfl

set_option maxRecDepth 100000 in
theorem contract (H : Type) (enc : TypeId × Value → H) (W : World) (base : Nat) (args : Array Value) (ds gs : List (DataW H)) (before : List MemPlace)
    (hval : ∀ (j : Nat) t v, Try.f4.params[j]? = some t → args[j]? = some v → Value.okWide Try.prog W .any base t v)
    (hW : DataW.Whole enc Try.prog Try.f4.params.toList Rows.modelGreatSpec.vars false W args.toList ds gs before) :
    Calls Try.prog 4 args W fun e W' => ∃ v, e = .returned v ∧ Rows.modelGreatSpec.post enc Try.prog Try.f4 false true false false W args v W' := by
  have hW' := hW
  obtain ⟨p, q, hA0, hV, rfl, hfz, hnd⟩ := hW
  have hA : DataW.TrodAll enc Try.prog W 0 (fun _ => true) true Try.f4.params.toList args.toList ds p := hA0
  rw [Try.params4] at hA hval
  obtain ⟨v0, vs0, d0, ds0, p0, q0, hargs, rfl, rfl, h0, r0⟩ := trodAll_cons hA
  obtain ⟨v1, vs1, d1, ds1, p1, q1, rfl, rfl, rfl, h1, r1⟩ := trodAll_cons r0
  obtain ⟨rfl, rfl, rfl⟩ := trodAll_nil r1
  obtain rfl : args = #[v0, v1] := by
    obtain ⟨l⟩ := args
    exact congrArg Array.mk hargs
  obtain ⟨rfl, rfl⟩ := trodVars_none hV
  obtain ⟨n0, rfl, rfl, rfl, w0⟩ := open_int Try.underlying3 (hval 0 3 v0 rfl rfl) h0
  obtain ⟨n1, rfl, rfl, rfl, w1⟩ := open_int Try.underlying3 (hval 1 3 v1 rfl rfl) h1
  refine (great_any n0 n1 W ).mono fun e W' ⟨he, hg⟩ => ?_
  subst he
  exact ⟨_, rfl, post_true hW' rfl rfl rfl (by kernel_rfl) (by kernel_rfl) hg⟩

set_option maxRecDepth 100000 in
theorem lifted (os : Os) (started : os.Started) (H : Type) (enc : TypeId × Value → H) :
    ReturnsInHanded {} Try.checked os 4 .any (Rows.modelGreatSpec.pre6 enc Try.prog Try.f4 Rows.modelGreatRow.domain false) (Rows.modelGreatSpec.post enc Try.prog Try.f4 false true false false) := by
  refine returnsInHanded_of_change (C := Try.checked) own started (by kernel_rfl) Try.func4
    (ChangeSpec.witness6 (enc := enc) (C := Try.checked) false ⟨#[], #[.int .i64 0, .int .i64 0], []⟩ 12 (by kernel_rfl) (by kernel_rfl) (by kernel_rfl) (by kernel_rfl)) ?_
  intro W base args ds gs before hval0 hW hcnd _
  exact contract H enc W base args ds gs before hval0 hW

theorem over : Rows.modelGreatRow.holds Try.pinned (OpenSpec.ofChange Rows.modelGreatSpec) :=
  OpenClaim.holds_of_wide 4 Try.f4 rfl rfl rfl rfl rfl rfl rfl ⟨rfl, rfl, rfl, rfl, rfl⟩ rfl rfl rfl rfl rfl (by kernel_rfl) Try.func4 (by kernel_rfl)
    (of_decide_eq_true (by kernel_rfl)) (by unfold Func.isWrapper; first | (rw [if_pos (by decide +kernel)]; kernel_rfl) | (rw [if_neg (by decide +kernel)]; exact ⟨rfl, rfl⟩))
    (fun os started H enc _ => lifted os started H enc)

theorem proved : Rows.ModelGreatSaid :=
  over
#print axioms proved
end Go.Proofs.Ytaicecnfodhlcaa.modelGreat
