/- Contracts of Go's library at this program's types, out of the kit's shelf. -/
import Derived.Test.YtaicecnfodhlcaaShelf
import Derived.Test.YtaicecnfodhlcaaJ01
import Derived.Maps.RangeWalk
import Derived.Laws.IdiomStrings
import Derived.Laws.Rows
import Derived.Deep.RegionHeld3
set_option linter.unusedVariables false
set_option linter.unusedSimpArgs false
namespace Go.Proofs.Ytaicecnfodhlcaa
open Go.RowKit Go.Shelf

theorem st_cell : SlT Try.prog 44 46 3 32 := SlT.mk' (z := .agg #[.int .i64 0, .string ⟨#[]⟩, .int .i64 0]) Try.underlying44 (by decide) (by kernel_rfl) rfl
theorem sz_cell : SlZ Try.prog 44 46 3 32 (cellL default) := SlZ.mk' (z := .agg #[.int .i64 0, .string ⟨#[]⟩, .int .i64 0]) Try.underlying44 (by decide) (by kernel_rfl) rfl rfl
theorem sz_view : SlZ Try.prog 24 76 3 24 (viewL default) := SlZ.mk' (z := .agg #[.int .i64 0, .int .i64 0, .int .i64 0]) Try.underlying24 (by decide) (by kernel_rfl) rfl rfl
theorem st_view : SlT Try.prog 24 76 3 24 := SlT.mk' (z := .agg #[.int .i64 0, .int .i64 0, .int .i64 0]) Try.underlying24 (by decide) (by kernel_rfl) rfl

theorem cloneCells_any (b off cap : Nat) (xs : List Cell) (w : World) (hs : Sl 3 cellL w (some ⟨b, off, none⟩) xs) (hl : xs.length ≤ 1000000000) :
    Calls Try.prog 54 #[.slice (some ⟨b, off, none⟩) xs.length cap] w fun e w' => ∃ v, e = .returned v ∧ Own 46 3 cellL w.heap.size w' v xs ∧ Below w.heap.size w w' := by
  obtain ⟨ht, hp, i, z, hi, hz0, hsize, hbytes, hzs⟩ := st_cell
  have h := AnyE.slices_Clone Try.cloneCells i z 3 32 hi hz0 hsize hbytes hzs (by decide) (fun w => by kernel_rfl) b off xs.length cap (xs.flatMap cellL) w (flat_length (enc := cellL) (sz := 3) (fun _ => rfl) xs) (by unfold maxLen; omega) (by omega)
    (fun j u hu => by have := Sl.flat (sz := 3) (fun _ => rfl) hs j u hu; rw [add_none] at this; exact this) (fun u hu => by obtain ⟨y, _, hy⟩ := List.mem_flatMap.1 hu; exact cells1_cell y u hy)
  change Calls Try.prog 54 _ _ _ at h
  exact h.mono fun e w' ⟨v, he, ho, _, hb⟩ => ⟨v, he, ho, hb⟩
theorem cloneViews_any (b off cap : Nat) (xs : List View) (w : World) (hs : Sl 3 viewL w (some ⟨b, off, none⟩) xs) (hl : xs.length ≤ 1000000000) :
    Calls Try.prog 28 #[.slice (some ⟨b, off, none⟩) xs.length cap] w fun e w' => ∃ v, e = .returned v ∧ Own 76 3 viewL w.heap.size w' v xs ∧ Below w.heap.size w w' := by
  obtain ⟨ht, hp, i, z, hi, hz0, hsize, hbytes, hzs⟩ := st_view
  have h := AnyE.slices_Clone Try.cloneViews i z 3 24 hi hz0 hsize hbytes hzs (by decide) (fun w => by kernel_rfl) b off xs.length cap (xs.flatMap viewL) w (flat_length (enc := viewL) (sz := 3) (fun _ => rfl) xs) (by unfold maxLen; omega) (by omega)
    (fun j u hu => by have := Sl.flat (sz := 3) (fun _ => rfl) hs j u hu; rw [add_none] at this; exact this) (fun u hu => by obtain ⟨y, _, hy⟩ := List.mem_flatMap.1 hu; exact cells1_view y u hy)
  change Calls Try.prog 28 _ _ _ at h
  exact h.mono fun e w' ⟨v, he, ho, _, hb⟩ => ⟨v, he, ho, hb⟩

def icmp (a b : Int) : Int := if a < b then -1 else if b < a then 1 else 0
def bcmp (a b : ByteArray) : Int := Lib.compareBytes a.data.toList b.data.toList
def ccmp (a b : Cell) : Int := if icmp a.v b.v = 0 then if bcmp a.k b.k = 0 then icmp a.s b.s else bcmp a.k b.k else icmp a.v b.v

theorem strCompare_any (a b : ByteArray) (w : World) : Calls Try.prog 76 #[.string a, .string b] w fun e w' => e = .returned (.int .i64 (bcmp a b)) ∧ w' = w := by
  have h := Any.strings_Compare Try.strCompare a b w
  exact h

theorem cmpInt_any (a b : Int) (w : World) : Calls Try.prog 75 #[.int .i64 a, .int .i64 b] w fun e w' => e = .returned (.int .i64 (icmp a b)) ∧ w = w' := by
  have h1 : (a != a) = false := by simp
  have h2 : (b != b) = false := by simp
  unfold icmp
  rcases Int.lt_trichotomy a b with h | h | h
  · rw [if_pos h]
    go_enter Try.func75, Try.ntmps75
    go_wp2
    go_ret
    exact ⟨rfl, rfl⟩
  · subst h
    have h3 : ¬ a < a := by omega
    rw [if_neg h3, if_neg h3]
    go_enter Try.func75, Try.ntmps75
    go_wp2
    go_ret
    exact ⟨rfl, rfl⟩
  · have h3 : ¬ a < b := by omega
    rw [if_neg h3, if_pos h]
    go_enter Try.func75, Try.ntmps75
    go_wp2
    go_ret
    exact ⟨rfl, rfl⟩
theorem cmpInt64_any (a b : Int) (w : World) : Calls Try.prog 77 #[.int .i64 a, .int .i64 b] w fun e w' => e = .returned (.int .i64 (icmp a b)) ∧ w = w' := by
  have h1 : (a != a) = false := by simp
  have h2 : (b != b) = false := by simp
  unfold icmp
  rcases Int.lt_trichotomy a b with h | h | h
  · rw [if_pos h]
    go_enter Try.func77, Try.ntmps77
    go_wp2
    go_ret
    exact ⟨rfl, rfl⟩
  · subst h
    have h3 : ¬ a < a := by omega
    rw [if_neg h3, if_neg h3]
    go_enter Try.func77, Try.ntmps77
    go_wp2
    go_ret
    exact ⟨rfl, rfl⟩
  · have h3 : ¬ a < b := by omega
    rw [if_neg h3, if_pos h]
    go_enter Try.func77, Try.ntmps77
    go_wp2
    go_ret
    exact ⟨rfl, rfl⟩

def or3 (x y z : Int) : Int := if x = 0 then if y = 0 then z else y else x
theorem cmpOr_any (b : Nat) (x y z : Int) (w : World) (hx : w.cell? ⟨b, 0, none⟩ = some (.int .i64 x)) (hy : w.cell? ⟨b, 1, none⟩ = some (.int .i64 y)) (hz : w.cell? ⟨b, 2, none⟩ = some (.int .i64 z)) :
    Calls Try.prog 74 #[.slice (some ⟨b, 0, none⟩) 3 3] w fun e w' => e = .returned (.int .i64 (or3 x y z)) ∧ w = w' := by
  unfold or3
  by_cases h1 : x = 0
  · rw [if_pos h1]
    have g1 : (x != 0) = false := by simp [h1]
    by_cases h2 : y = 0
    · rw [if_pos h2]
      have g2 : (y != 0) = false := by simp [h2]
      by_cases h3 : z = 0
      · have g3 : (z != 0) = false := by simp [h3]
        clear h1 h2
        subst h3
        go_enter Try.func74, Try.ntmps74
        go_wp2
        refine wp_loop_rounds 4 ?_
        repeat any_goals (rw [rounds_succ]; go_wp2)
        go_ret
        exact ⟨rfl, rfl⟩
      · have g3 : (z != 0) = true := by simp [h3]
        clear h1 h2
        go_enter Try.func74, Try.ntmps74
        go_wp2
        refine wp_loop_rounds 4 ?_
        repeat any_goals (rw [rounds_succ]; go_wp2)
        go_ret
        exact ⟨rfl, rfl⟩
    · rw [if_neg h2]
      have g2 : (y != 0) = true := by simp [h2]
      clear h1 h2
      go_enter Try.func74, Try.ntmps74
      go_wp2
      refine wp_loop_rounds 4 ?_
      repeat any_goals (rw [rounds_succ]; go_wp2)
      go_ret
      exact ⟨rfl, rfl⟩
  · rw [if_neg h1]
    have g1 : (x != 0) = true := by simp [h1]
    clear h1
    go_enter Try.func74, Try.ntmps74
    go_wp2
    refine wp_loop_rounds 4 ?_
    repeat any_goals (rw [rounds_succ]; go_wp2)
    go_ret
    exact ⟨rfl, rfl⟩

set_option maxHeartbeats 1000000 in
theorem compare_any (a1 : Int) (a2 : ByteArray) (a3 : Int) (b1 : Int) (b2 : ByteArray) (b3 : Int) (w : World) :
    Calls Try.prog 56 #[.agg #[.int .i64 a1, .string a2, .int .i64 a3], .agg #[.int .i64 b1, .string b2, .int .i64 b3]] w fun e w' => e = .returned (.int .i64 (ccmp ⟨a1, a2, a3⟩ ⟨b1, b2, b3⟩)) ∧ ∃ q os', w' = Sort.grow (w.drewN q) os' := by
  rw [show ccmp ⟨a1, a2, a3⟩ ⟨b1, b2, b3⟩ = or3 (icmp a1 b1) (bcmp a2 b2) (icmp a3 b3) from rfl]
  have k1 := fun W => cmpInt_any a1 b1 W
  have k2 := fun W => strCompare_any a2 b2 W
  have k3 := fun W => cmpInt64_any a3 b3 W
  generalize icmp a1 b1 = x at *
  generalize bcmp a2 b2 = y at *
  generalize icmp a3 b3 = z at *
  go_enter Try.func56, Try.ntmps56
  go_wp2_with fail
  go_region_held3 (fun w' => w'.cell? ⟨w.heap.size, 0, none⟩ = some (.int .i64 a1) ∧ w'.cell? ⟨w.heap.size, 1, none⟩ = some (.string a2) ∧ w'.cell? ⟨w.heap.size, 2, none⟩ = some (.int .i64 a3) ∧ w'.cell? ⟨w.heap.size + 1, 0, none⟩ = some (.int .i64 b1) ∧ w'.cell? ⟨w.heap.size + 1, 1, none⟩ = some (.string b2) ∧ w'.cell? ⟨w.heap.size + 1, 2, none⟩ = some (.int .i64 b3)) (go_keep)
    (first | (go_at_call 75; refine (k1 _).mono ?_; rintro e w' ⟨rfl, rfl⟩) | (go_at_call 76; refine (k2 _).mono ?_; rintro e w' ⟨rfl, rfl⟩) | (go_at_call 77; refine (k3 _).mono ?_; rintro e w' ⟨rfl, rfl⟩) | (go_at_call 74; refine (cmpOr_any _ x y z _ ?_ ?_ ?_).mono ?_; (go_simp); (go_simp); (go_simp); rintro e w' ⟨rfl, rfl⟩))
  go_wp2
  go_ret
  exact ⟨rfl, 1, _, by rw [Sort.alloc_eq_grow, Sort.alloc_eq_grow, Sort.alloc_eq_grow, Sort.grow_grow, Sort.grow_grow]; rfl⟩
end Go.Proofs.Ytaicecnfodhlcaa
/- The order of cells; slices.SortFunc at cells. -/
set_option linter.unusedVariables false
set_option linter.unusedSimpArgs false
namespace Go.Proofs.Ytaicecnfodhlcaa
open Go.RowKit Go.Shelf Go.Sort

/-- What a comparison must be to be a total order. -/
structure Tot {α : Type} (f : α → α → Int) : Prop where
  eq : ∀ a b, f a b = 0 → a = b
  self : ∀ a, f a a = 0
  anti : ∀ a b, f b a = - f a b
  trans : ∀ a b c, f a b < 0 → f b c < 0 → f a c < 0

theorem tot_int : Tot icmp where
  eq a b h := by unfold icmp at h; (repeat' split at h) <;> omega
  self a := by unfold icmp; simp
  anti a b := by unfold icmp; by_cases h1 : a < b <;> by_cases h2 : b < a <;> simp [h1, h2] <;> omega
  trans a b c h1 h2 := by
    have k1 : a < b := by
      unfold icmp at h1; split at h1
      · assumption
      · split at h1 <;> omega
    have k2 : b < c := by
      unfold icmp at h2; split at h2
      · assumption
      · split at h2 <;> omega
    unfold icmp; rw [if_pos (by omega)]; omega

theorem cb_self : ∀ l : List UInt8, Lib.compareBytes l l = 0
  | [] => rfl
  | a :: r => by simp [Lib.compareBytes, cb_self r]
theorem cb_eq : ∀ l m : List UInt8, Lib.compareBytes l m = 0 → l = m
  | [], [], _ => rfl
  | [], _ :: _, h => by simp [Lib.compareBytes] at h
  | _ :: _, [], h => by simp [Lib.compareBytes] at h
  | a :: r, b :: s, h => by
    simp only [Lib.compareBytes] at h
    split at h
    · omega
    · split at h
      · omega
      · rename_i h1 h2
        have e : a = b := by
          have e1 : a.toNat = b.toNat := by
            rw [UInt8.lt_iff_toNat_lt] at h1 h2; omega
          exact UInt8.toNat_inj.1 e1
        rw [e, cb_eq r s h]
theorem cb_anti : ∀ l m : List UInt8, Lib.compareBytes m l = - Lib.compareBytes l m
  | [], [] => rfl
  | [], _ :: _ => rfl
  | _ :: _, [] => rfl
  | a :: r, b :: s => by
    simp only [Lib.compareBytes]
    have ih := cb_anti r s
    by_cases h1 : a < b <;> by_cases h2 : b < a
    · exfalso; rw [UInt8.lt_iff_toNat_lt] at h1 h2; omega
    · simp [h1, h2]
    · simp [h1, h2]
    · simp [h1, h2, ih]
theorem cb_trans : ∀ l m n : List UInt8, Lib.compareBytes l m < 0 → Lib.compareBytes m n < 0 → Lib.compareBytes l n < 0
  | [], [], n, h, _ => by simp [Lib.compareBytes] at h
  | [], _ :: _, [], _, h => by simp [Lib.compareBytes] at h
  | [], _ :: _, _ :: _, _, _ => by simp [Lib.compareBytes]
  | _ :: _, [], n, h, _ => by simp [Lib.compareBytes] at h
  | _ :: _, _ :: _, [], _, h => by simp [Lib.compareBytes] at h
  | a :: r, b :: s, c :: t, h, k => by
    simp only [Lib.compareBytes] at *
    split at h
    · rename_i h1
      split at k
      · rename_i k1
        rw [if_pos (by rw [UInt8.lt_iff_toNat_lt] at *; omega)]; omega
      · split at k
        · omega
        · rename_i k1 k2
          rw [if_pos (by rw [UInt8.lt_iff_toNat_lt] at *; omega)]; omega
    · rename_i h1
      split at h
      · omega
      · rename_i h2
        split at k
        · rename_i k1
          rw [if_pos (by rw [UInt8.lt_iff_toNat_lt] at *; omega)]; omega
        · rename_i k1
          split at k
          · omega
          · rename_i k2
            rw [if_neg (by rw [UInt8.lt_iff_toNat_lt] at *; omega), if_neg (by rw [UInt8.lt_iff_toNat_lt] at *; omega)]
            exact cb_trans r s t h k
theorem tot_bytes : Tot bcmp where
  eq a b h := by
    have := cb_eq _ _ h
    cases a; cases b; simp at this; rw [this]
  self a := cb_self _
  anti a b := cb_anti _ _
  trans a b c h k := cb_trans _ _ _ h k

/-- One order ahead of another. -/
def lex {α : Type} (f g : α → α → Int) (a b : α) : Int := if f a b = 0 then g a b else f a b
theorem ccmp_lex : ccmp = fun a b => lex (fun a b : Cell => icmp a.v b.v) (lex (fun a b : Cell => bcmp a.k b.k) (fun a b : Cell => icmp a.s b.s)) a b := rfl

theorem tot_cell : Tot ccmp where
  eq a b h := by
    unfold ccmp at h
    split at h
    · rename_i h1
      split at h
      · rename_i h2
        cases a; cases b
        have e1 := tot_int.eq _ _ h1
        have e2 := tot_bytes.eq _ _ h2
        have e3 := tot_int.eq _ _ h
        simp_all
      · contradiction
    · contradiction
  self a := by unfold ccmp; simp [tot_int.self, tot_bytes.self]
  anti a b := by
    unfold ccmp
    rw [tot_int.anti a.v b.v, tot_bytes.anti a.k b.k, tot_int.anti a.s b.s]
    by_cases h1 : icmp a.v b.v = 0
    · rw [if_pos h1, if_pos (by omega)]
      by_cases h2 : bcmp a.k b.k = 0
      · rw [if_pos h2, if_pos (by omega)]
      · rw [if_neg h2, if_neg (by omega)]
    · rw [if_neg h1, if_neg (by omega)]
  trans a b c h k := by
    unfold ccmp at *
    by_cases h1 : icmp a.v b.v = 0
    · have e1 := tot_int.eq _ _ h1
      rw [if_pos h1] at h
      by_cases k1 : icmp b.v c.v = 0
      · rw [if_pos k1] at k
        rw [e1, if_pos k1]
        by_cases h2 : bcmp a.k b.k = 0
        · have e2 := tot_bytes.eq _ _ h2
          rw [if_pos h2] at h
          by_cases k2 : bcmp b.k c.k = 0
          · rw [if_pos k2] at k
            rw [e2, if_pos k2]
            exact tot_int.trans _ _ _ h k
          · rw [if_neg k2] at k
            rw [e2, if_neg k2]; exact k
        · rw [if_neg h2] at h
          by_cases k2 : bcmp b.k c.k = 0
          · rw [← tot_bytes.eq _ _ k2, if_neg h2]; exact h
          · rw [if_neg k2] at k
            have := tot_bytes.trans _ _ _ h k
            rw [if_neg (by omega)]; exact this
      · rw [if_neg k1] at k
        rw [e1, if_neg k1]; exact k
    · rw [if_neg h1] at h
      by_cases k1 : icmp b.v c.v = 0
      · rw [← tot_int.eq _ _ k1, if_neg h1]; exact h
      · rw [if_neg k1] at k
        have := tot_int.trans _ _ _ h k
        rw [if_neg (by omega)]; exact this

theorem swo_cell : SWO (ltOf ccmp) where
  irrefl x := by simp [ltOf, tot_cell.self]
  trans x y z h1 h2 := by simp [ltOf] at *; exact tot_cell.trans _ _ _ h1 h2
  ntrans x y z h1 h2 := by
    simp [ltOf] at *
    rcases Int.lt_trichotomy (ccmp x z) 0 with h | h | h
    · exfalso
      by_cases e1 : ccmp x y = 0
      · have := tot_cell.eq _ _ e1; subst this; omega
      · by_cases e2 : ccmp y z = 0
        · have := tot_cell.eq _ _ e2; subst this; omega
        · have a1 := tot_cell.anti x y
          have a2 := tot_cell.anti y z
          have a3 := tot_cell.trans z y x (by omega) (by omega)
          have a4 := tot_cell.anti x z
          omega
    · omega
    · omega

/-- The cells of a list, in order. -/
def sortC (xs : List Cell) : List Cell := xs.mergeSort fun x y => !(ltOf ccmp) y x
/-- Do cells rise, each once? -/
def Rise (xs : List Cell) : Prop := xs.Pairwise fun x y => ccmp x y < 0

theorem sortC_perm (xs : List Cell) : (sortC xs).Perm xs := List.mergeSort_perm _ _
theorem sortC_length (xs : List Cell) : (sortC xs).length = xs.length := (sortC_perm xs).length_eq
theorem sortC_le (xs : List Cell) : (sortC xs).Pairwise fun x y => ¬ ccmp y x < 0 := by
  have h := List.pairwise_mergeSort (le := fun x y : Cell => !(ltOf ccmp) y x) (fun a b c h1 h2 => by
    have := swo_cell.ntrans c b a (by simpa using h2) (by simpa using h1)
    simpa using this) (fun a b => by
    simp [ltOf]
    have := tot_cell.anti a b
    omega) xs
  exact h.imp fun h => by simpa [ltOf] using h
theorem sortC_rise {xs : List Cell} (h : xs.Nodup) : Rise (sortC xs) := by
  have h1 := sortC_le xs
  have h2 : (sortC xs).Nodup := (sortC_perm xs).nodup_iff.2 h
  exact (h1.and h2).imp (fun {x y} (hh : ¬ ccmp y x < 0 ∧ x ≠ y) => by
    have e := tot_cell.anti x y
    rcases Int.lt_trichotomy (ccmp x y) 0 with g | g | g
    · exact g
    · exact absurd (tot_cell.eq _ _ g) hh.2
    · have := hh.1; omega)
theorem Rise.nodup {xs : List Cell} (h : Rise xs) : xs.Nodup := List.Pairwise.imp (fun {a b} h e => by subst e; rw [tot_cell.self] at h; omega) h
theorem Rise.perm_eq {xs ys : List Cell} (hx : Rise xs) (hy : Rise ys) (h : xs.Perm ys) : xs = ys :=
  List.Perm.eq_of_pairwise (le := fun x y => ccmp x y < 0) (fun a b _ _ h1 h2 => by have := tot_cell.anti a b; omega) hx hy h
theorem sortC_eq {xs ys : List Cell} (hx : Rise xs) (h : xs.Perm ys) : sortC ys = xs :=
  Rise.perm_eq (sortC_rise (h.nodup_iff.1 hx.nodup)) hx ((sortC_perm ys).trans h.symm)

theorem flatK_eq {α : Type} [Inhabited α] {enc : α → List Value} {k : Nat} (hk : ∀ x, (enc x).length = k) (xs : List α) : (flatK enc k xs.toArray).toList = xs.flatMap enc := by
  apply List.ext_getElem?
  intro j
  by_cases hj : j < xs.length * k
  · have hk0 : 0 < k := by rcases Nat.eq_zero_or_pos k with rfl | h; simp at hj; exact h
    have hi : j / k < xs.length := Nat.div_lt_of_lt_mul (by rw [Nat.mul_comm]; exact hj)
    have e1 := flat_get hk xs (j / k) hi (j % k) (Nat.mod_lt _ hk0)
    rw [Nat.div_add_mod' j k] at e1
    rw [e1]
    have e2 := get_flatK enc k xs.toArray j (by simpa using hj)
    have hs : j < (flatK enc k xs.toArray).size := by simpa using hj
    rw [getElem!_pos (flatK enc k xs.toArray) j hs, getElem!_pos xs.toArray (j / k) (by simpa using hi)] at e2
    have hm : j % k < (enc xs[j / k]).length := by rw [hk]; exact Nat.mod_lt _ hk0
    simp only [List.getElem_toArray] at e2
    rw [getElem!_pos (enc xs[j / k]) (j % k) hm] at e2
    rw [List.getElem?_eq_getElem hm, Array.getElem?_toList, Array.getElem?_eq_getElem hs, e2]
  · rw [List.getElem?_eq_none (by simp; omega), List.getElem?_eq_none (by rw [flat_length hk]; omega)]
end Go.Proofs.Ytaicecnfodhlcaa
/- The contract of mark's Open. -/
set_option linter.unusedVariables false
set_option linter.unusedSimpArgs false
namespace Go.Proofs.Ytaicecnfodhlcaa
open Go.RowKit

/-- The open cells of a time in view i. -/
def viewCells (vs : List View) (t m : Int) (i : Nat) : List Cell := ((vs.getD i default).opens t m).map fun s => ⟨i, ByteArray.empty, s⟩
/-- The open cells of a time in the first k views, and how many windows it has in them. -/
def openN (vs : List View) (t m : Int) (k : Nat) : List Cell := (List.range k).flatMap (viewCells vs t m)
def winN (vs : List View) (t : Int) (k : Nat) : Nat := ((List.range k).map fun i => ((vs.getD i default).starts t).length).sum
theorem openN_succ (vs : List View) (t m : Int) (k : Nat) : openN vs t m (k + 1) = openN vs t m k ++ viewCells vs t m k := by
  simp [openN, List.range_succ]
theorem winN_succ (vs : List View) (t : Int) (k : Nat) : winN vs t (k + 1) = winN vs t k + ((vs.getD k default).starts t).length := by
  simp [winN, List.range_succ]
theorem opens_le {v : View} (hv : v.ok = true) (t m : Int) : (v.opens t m).length ≤ 64 :=
  Nat.le_trans (List.length_filter_le _ _) (by rw [starts_length]; exact cnt_le hv t)
theorem openN_le {vs : List View} (hv : ∀ v ∈ vs, v.ok = true) (t m : Int) : ∀ k, k ≤ vs.length → (openN vs t m k).length ≤ 64 * k
  | 0, _ => by simp [openN]
  | k + 1, hk => by
    rw [openN_succ, List.length_append]
    have h1 := openN_le hv t m k (by omega)
    have h2 : (viewCells vs t m k).length ≤ 64 := by
      unfold viewCells
      rw [List.length_map, List.getD_eq_getElem?_getD, List.getElem?_eq_getElem (by omega)]
      exact opens_le (hv _ (List.getElem_mem _)) t m
    omega
theorem winN_le {vs : List View} (hv : ∀ v ∈ vs, v.ok = true) (t : Int) : ∀ k, k ≤ vs.length → winN vs t k ≤ 64 * k
  | 0, _ => by simp [winN]
  | k + 1, hk => by
    rw [winN_succ]
    have h1 := winN_le hv t k (by omega)
    have h2 : ((vs.getD k default).starts t).length ≤ 64 := by
      rw [List.getD_eq_getElem?_getD, List.getElem?_eq_getElem (by omega), starts_length]
      exact cnt_le (hv _ (List.getElem_mem _)) t
    omega

/-- What Open answers. -/
def openCells (vs : List View) (t m : Int) : List Cell := openN vs t m vs.length
def isLate (vs : List View) (t m : Int) : Bool := decide (0 < winN vs t vs.length) && (openCells vs t m).isEmpty

set_option maxHeartbeats 1000000 in
theorem openTime_any (bm bl : Nat) (ms : List Int) (t : Int) (a : Option Addr) (cap : Nat) (vs : List View) (w : World) (hm : IsMarks w bm bl ms) (hs : Sl 3 viewL w a vs) (hv : ∀ v ∈ vs, v.ok = true) (hl : vs.length ≤ 4) (ht : t < -1152921504606846976 ∨ 1152921504606846976 < t) :
    Calls Try.prog 21 #[.pointer (some ⟨bm, 0, none⟩), .int .i64 t, .slice a vs.length cap] w fun e w' => e = .returned (.tuple #[.slice none 0 0, .bool false, .int .i64 22]) ∧ Below w.heap.size w w' := by
  go_enter Try.func21, Try.ntmps21
  go_wp2_with fail
  go_loopg [10, 11, 28] vs.length (fun g _ _ i wr => ∃ k : Nat, k + g = vs.length ∧ i = .int .i64 k ∧ Below w.heap.size w wr)
  case atStart => exact ⟨0, by omega, rfl, Below.refl _ _⟩
  case round =>
    obtain ⟨k, hk, rfl, hb⟩ := hrel
    have Hk := Lib.hid hk
    clear hk
    by_cases hlt : k < vs.length
    · obtain ⟨ob, oo, rfl, hob, h0, h1, h2⟩ := hs.at3 hlt rfl
      have d0 := (hb.cell (p := ⟨ob, _, none⟩) hob).trans h0
      have d1 := (hb.cell (p := ⟨ob, _, none⟩) hob).trans h1
      have d2 := (hb.cell (p := ⟨ob, _, none⟩) hob).trans h2
      clear h0 h1 h2
      have hok := hv vs[k] (List.getElem_mem _)
      have hchk : View.chk ⟨vs[k].size, vs[k].slide, vs[k].late⟩ = 0 := by
        rw [show (⟨vs[k].size, vs[k].slide, vs[k].late⟩ : View) = vs[k] from rfl]; simp [View.chk, hok]
      generalize vs[k].size = x at *
      generalize vs[k].slide = y at *
      generalize vs[k].late = z at *
      go_wp2_with fail
      refine (check_any _ _ _ _).mono ?_
      rw [hchk]
      rintro e w1 ⟨rfl, hb1⟩
      go_wp2_with fail
      go_roundg (gk - 1)
      case measure => have := Hk.out; omega
      case rel => exact ⟨k + 1, by have := Hk.out; omega, by go_num, (hb.alloc hb.size _).trans (hb1.mono (by have := hb.size; simp; omega))⟩
    · have h' : k = vs.length := by have := Hk.out; omega
      have H' := Lib.hid h'
      clear h'
      rcases ht with ht | ht
      · go_wp2_with fail
        go_ret3
        exact ⟨rfl, hb⟩
      · have ht' : ¬ t < -1152921504606846976 := by omega
        go_wp2_with fail
        go_ret3
        exact ⟨rfl, hb⟩

/-- One cell more in a row of room. -/
theorem set_fill {done : List Cell} {ops : List Int} {f : Int → Cell} {j p : Nat} (hp : p = done.length + j) (hj : j < ops.length) (h : p < 260) :
    done ++ (ops.take (j + 1)).map f ++ List.replicate (260 - (p + 1)) default = (done ++ (ops.take j).map f ++ List.replicate (260 - p) default).set p (f ops[j]) := by
  have hl : (done ++ (ops.take j).map f).length = p := by simp; omega
  rw [List.set_append_right _ _ (by omega), hl, Nat.sub_self, show 260 - p = (260 - (p + 1)) + 1 from by omega, List.replicate_succ, List.set_cons_zero, List.take_succ_eq_append_getElem hj, List.map_append, List.map_cons, List.map_nil]
  simp only [List.append_assoc, List.cons_append, List.nil_append]

set_option maxRecDepth 100000 in
set_option maxHeartbeats 2000000 in
theorem openCells_any (bm bl : Nat) (ms : List Int) (t : Int) (a : Option Addr) (cap : Nat) (vs : List View) (w : World) (hm : IsMarks w bm bl ms) (hs : Sl 3 viewL w a vs) (hv : ∀ v ∈ vs, v.ok = true) (hl : vs.length ≤ 4) (ht : -1152921504606846976 ≤ t) (ht2 : t ≤ 1152921504606846976) :
    Calls Try.prog 21 #[.pointer (some ⟨bm, 0, none⟩), .int .i64 t, .slice a vs.length cap] w fun e w' => ∃ v, e = .returned (.tuple #[v, .bool (isLate vs t (leastOf ms)), .int .i64 0]) ∧ Own 46 3 cellL w.heap.size w' v (openCells vs t (leastOf ms)) ∧ Below w.heap.size w w' := by
  have hmk := make_own sz_cell (fun _ => rfl) 260 (by decide) (by decide)
  go_enter Try.func21, Try.ntmps21
  go_wp2_with fail
  go_loopg [10, 11, 28] vs.length (fun g _ _ i wr => ∃ k : Nat, k + g = vs.length ∧ i = .int .i64 k ∧ Below w.heap.size w wr)
  case atStart => exact ⟨0, by omega, rfl, Below.refl _ _⟩
  case round =>
    obtain ⟨k, hk, rfl, hb⟩ := hrel
    have Hk := Lib.hid hk
    clear hk
    by_cases hlt : k < vs.length
    · obtain ⟨ob, oo, rfl, hob, h0, h1, h2⟩ := hs.at3 hlt rfl
      have d0 := (hb.cell (p := ⟨ob, _, none⟩) hob).trans h0
      have d1 := (hb.cell (p := ⟨ob, _, none⟩) hob).trans h1
      have d2 := (hb.cell (p := ⟨ob, _, none⟩) hob).trans h2
      clear h0 h1 h2
      have hok := hv vs[k] (List.getElem_mem _)
      have hchk : View.chk ⟨vs[k].size, vs[k].slide, vs[k].late⟩ = 0 := by
        rw [show (⟨vs[k].size, vs[k].slide, vs[k].late⟩ : View) = vs[k] from rfl]; simp [View.chk, hok]
      generalize vs[k].size = x at *
      generalize vs[k].slide = y at *
      generalize vs[k].late = z at *
      go_wp2_with fail
      refine (check_any _ _ _ _).mono ?_
      rw [hchk]
      rintro e w1 ⟨rfl, hb1⟩
      go_wp2_with fail
      go_roundg (gk - 1)
      case measure => have := Hk.out; omega
      case rel => exact ⟨k + 1, by have := Hk.out; omega, by go_num, (hb.alloc hb.size _).trans (hb1.mono (by have := hb.size; simp; omega))⟩
    · have h' : k = vs.length := by have := Hk.out; omega
      have H' := Lib.hid h'
      clear h'
      obtain ⟨o, hrun, hown⟩ := hmk wr
      have hrun' : (Instr.makeSlice 44 (.int .i64 260) (.int .i64 260)).run Try.prog wr = .ok (.slice (some ⟨wr.heap.size, 0, none⟩) 260 260) (wr.alloc o) := hrun
      clear hrun hmk
      go_wp2_with fail
      clear hrun'
      have hG : wr.heap.size < (wr.alloc o).heap.size := by simp
      have hbo : Below w.heap.size w (wr.alloc o) := hb.alloc hb.size _
      have hbs := hb.size
      generalize wr.alloc o = wo at *
      generalize wr.heap.size = G at *
      clear hb
      go_loopg [13, 14, 47] vs.length (fun g n wn i w2 => ∃ q : Nat, q + g = vs.length ∧ i = .int .i64 q ∧ n = .int .i64 (openN vs t (leastOf ms) q).length ∧ wn = .int .i64 (winN vs t q) ∧ Own 46 3 cellL G w2 (.slice (some ⟨G, 0, none⟩) 260 260) (openN vs t (leastOf ms) q ++ List.replicate (260 - (openN vs t (leastOf ms) q).length) default) ∧ G < w2.heap.size ∧ Below w.heap.size w w2)
      case atStart => exact ⟨0, by omega, rfl, rfl, rfl, hown, hG, hbo⟩
      case round =>
        obtain ⟨q, hq, rfl, rfl, rfl, hown2, hG2, hb2⟩ := hrel
        have Hq := Lib.hid hq
        have Hown2 := Lib.hid hown2
        clear hq hown hown2 hbo hG
        by_cases hlt : q < vs.length
        · obtain ⟨ob, oo, rfl, hob, h0, h1, h2⟩ := hs.at3 hlt rfl
          have d0 := (hb2.cell (p := ⟨ob, _, none⟩) hob).trans h0
          have d1 := (hb2.cell (p := ⟨ob, _, none⟩) hob).trans h1
          have d2 := (hb2.cell (p := ⟨ob, _, none⟩) hob).trans h2
          clear h0 h1 h2
          have hok := hv vs[q] (List.getElem_mem _)
          have hL := openN_le hv t (leastOf ms) q (by omega)
          have hW := winN_le hv t q (by omega)
          have hsc := openN_succ vs t (leastOf ms) q
          have hws := winN_succ vs t q
          have hvc : viewCells vs t (leastOf ms) q = (View.opens ⟨vs[q].size, vs[q].slide, vs[q].late⟩ t (leastOf ms)).map fun s => ⟨q, ByteArray.empty, s⟩ := by
            unfold viewCells; rw [List.getD_eq_getElem?_getD, List.getElem?_eq_getElem hlt]; rfl
          have hvg : vs.getD q default = ⟨vs[q].size, vs[q].slide, vs[q].late⟩ := by rw [List.getD_eq_getElem?_getD, List.getElem?_eq_getElem hlt]; rfl
          rw [hvc] at hsc
          rw [hvg] at hws
          have hok' : View.ok ⟨vs[q].size, vs[q].slide, vs[q].late⟩ = true := hok
          clear hvc hvg hok
          generalize vs[q].size = x at *
          generalize vs[q].slide = y at *
          generalize vs[q].late = z at *
          have hst := fun W => starts_any x y z t W hok' ht ht2
          have hop := fun W => open_any x y z t (leastOf ms) W hok' ht ht2
          have hle := fun W hW => marksLeast_any bm bl ms W hW
          have hsl := starts_length ⟨x, y, z⟩ t
          have hcl := cnt_le hok' t
          have hol := opens_le hok' t (leastOf ms)
          rw [← hsl] at hcl
          clear hsl
          generalize View.starts ⟨x, y, z⟩ t = sts at *
          generalize View.opens ⟨x, y, z⟩ t (leastOf ms) = ops at *
          generalize openN vs t (leastOf ms) q = done at *
          generalize winN vs t q = won at *
          have Hsc := Lib.hid hsc
          have Hws := Lib.hid hws
          clear hsc hws
          go_wp2_with fail
          refine (hst _).mono ?_
          rintro e w3 ⟨v3, rfl, hown3, hb3⟩
          obtain ⟨o3, cap3, rfl, hcap3, hsl3, hov3, hun3⟩ := hown3.sl fun _ => rfl
          clear hown3
          go_wp2_with fail
          have hz3 : wr.heap.size + 1 ≤ w3.heap.size := by have := hb3.size; simp at this; omega
          have hm3 : ∀ w', Below w3.heap.size w3 w' → IsMarks w' bm bl ms := by
            intro w' hb'
            have hall : Below w.heap.size w w' := (hb2.alloc hb2.size _).trans ((hb3.mono (by have := hb2.size; simp; omega)).trans (hb'.mono (by have := hb2.size; omega)))
            exact hm.keep (hall.block _ hm.lt.1) (hall.block _ hm.lt.2)
          have kp : ∀ w', Below w3.heap.size w3 w' → (Below w3.heap.size w3 w' ∧ w'.cell? ⟨wr.heap.size, 0, none⟩ = some (.int .i64 x) ∧ w'.cell? ⟨wr.heap.size, 1, none⟩ = some (.int .i64 y) ∧ w'.cell? ⟨wr.heap.size, 2, none⟩ = some (.int .i64 z)) := by
            intro w' h
            refine ⟨h, ?_, ?_, ?_⟩ <;> (rw [h.cell (by simp; omega), hb3.cell (by simp)]; go_simp)
          go_region_held3 (fun w' => Below w3.heap.size w3 w' ∧ w'.cell? ⟨wr.heap.size, 0, none⟩ = some (.int .i64 x) ∧ w'.cell? ⟨wr.heap.size, 1, none⟩ = some (.int .i64 y) ∧ w'.cell? ⟨wr.heap.size, 2, none⟩ = some (.int .i64 z)) (first | exact kp _ (Below.refl _ _).drew | assumption)
            (first | (go_at_call 24; refine (hle _ (hm3 _ (Below.refl _ _).drew)).mono ?_; rintro e w' ⟨rfl, rfl⟩) | (go_at_call 53; refine (hop _).mono ?_; rintro e w4 ⟨v4, rfl, hown4, hb4⟩; have hk4 := kp _ ((Below.refl _ _).drew.trans hb4)))
          obtain ⟨o4, cap4, rfl, hcap4, hsl4, hov4, hun4⟩ := hown4.sl fun _ => rfl
          clear hown4 kp hm3 hle hst hop
          have hownW : Own 46 3 cellL G w4 (.slice (some ⟨G, 0, none⟩) 260 260) (done ++ List.replicate (260 - done.length) default) :=
            Hown2.out.keep fun g hg hlt' => by
              rw [hk4.1.block _ (by omega), hb3.block _ (by simp; omega), blk_old hlt']
          have hz4 : w3.heap.size ≤ w4.heap.size := hk4.1.size
          have HownW := Lib.hid hownW
          clear hownW
          go_wp2_with fail
          go_loopg [13, 22, 72] ops.length (fun g n _ i w5 => ∃ j p : Nat, j + g = ops.length ∧ p = done.length + j ∧ i = .int .i64 j ∧ n = .int .i64 p ∧ Own 46 3 cellL G w5 (.slice (some ⟨G, 0, none⟩) 260 260) (done ++ ((ops.take j).map fun s => (⟨q, ByteArray.empty, s⟩ : Cell)) ++ List.replicate (260 - p) default) ∧ Chg [G] w4 w5)
          case atStart => exact ⟨0, done.length, by omega, rfl, rfl, rfl, by simpa using HownW.out, Chg.refl _ _⟩
          case round =>
            obtain ⟨j, p, hj, hp, rfl, rfl, hown5, hch⟩ := hrel
            have Hj := Lib.hid hj
            have Hp := Lib.hid hp
            have Hown5 := Lib.hid hown5
            have hp' : p < 260 ∨ ¬ j < ops.length := by omega
            clear hj hp hown5
            by_cases hlj : j < ops.length
            · have hp260 : p < 260 := by omega
              obtain ⟨b5, f5, rfl, hb5, hc5⟩ := (hsl4.chg hch (fun b off e => by
                have := hov4 b off none e
                have hz : G < w3.heap.size := by omega
                simp; rintro rfl
                simp at this; omega)).at_i64 hlj
              have hlen5 : (done ++ ((ops.take j).map fun s => (⟨q, ByteArray.empty, s⟩ : Cell)) ++ List.replicate (260 - p) default).length = 260 := by
                have := Hp.out; simp; omega
              obtain ⟨⟨u0, e0⟩, ⟨u1, e1⟩, ⟨u2, e2⟩, f0, f1, f2⟩ := Hown5.out.room3 (k := p) (fun _ => rfl) (by rw [hlen5]; exact hp260)
              have hset := Own.set3 (fun _ => rfl) Hown5.out (k := p) (c := ⟨q, ByteArray.empty, ops[j]⟩) hlen5.symm (by rw [hlen5]; exact hp260) rfl
              have Hset := Lib.hid hset
              clear hset hlen5
              generalize hoj : ops[j] = s at *
              have Hoj := Lib.hid hoj
              clear hoj
              go_wp2_with fail
              go_roundg (gk - 1)
              case measure => have := Hj.out; omega
              case rel =>
                refine ⟨j + 1, p + 1, by have := Hj.out; omega, by have := Hp.out; omega, by go_num, by go_num, ?_, ?_⟩
                · rw [set_fill Hp.out hlj (by omega), Hoj.out]
                  exact Hset.out
                · exact ((hch.trans (Chg.set (a := ⟨G, p * 3, none⟩) _ (by simp) _)).trans (Chg.set (a := ⟨G, p * 3 + 1, none⟩) _ (by simp) _)).trans (Chg.set (a := ⟨G, p * 3 + 2, none⟩) _ (by simp) _)
            · have hj' : j = ops.length := by have := Hj.out; omega
              have Hj' := Lib.hid hj'
              clear hj'
              go_wp2_with fail
              have hps : p = (openN vs t (leastOf ms) (q + 1)).length := by rw [Hsc.out, Hp.out, Hj'.out]; simp
              have hws : won + sts.length = winN vs t (q + 1) := Hws.out.symm
              go_roundg (vs.length - (q + 1))
              case measure => have := Hq.out; omega
              case rel =>
                refine ⟨q + 1, by omega, by go_num, by rw [hps], by rw [← hws]; go_num, ?_, ?_, ?_⟩
                · have h5 := Hown5.out
                  rw [Hj'.out, List.take_length, ← Hsc.out, hps] at h5
                  exact h5
                · have := hch.size; omega
                · refine Below.chain ?_ hch (by omega) (by simp; omega)
                  exact (hb2.alloc hb2.size _).trans ((hb3.mono (by have := hb2.size; simp; omega)).trans (hk4.1.mono (by have := hb2.size; omega)))
        · have hqv : q = vs.length := by have := Hq.out; omega
          have hL := openN_le hv t (leastOf ms) q (by omega)
          have hW := winN_le hv t q (by omega)
          have hoc : openCells vs t (leastOf ms) = openN vs t (leastOf ms) q := by rw [hqv]; rfl
          have hlt' : isLate vs t (leastOf ms) = (decide (0 < winN vs t q) && (openN vs t (leastOf ms) q).isEmpty) := by rw [hqv]; rfl
          have Hoc := Lib.hid hoc
          have Hlt' := Lib.hid hlt'
          have hq4 : q ≤ 4 := by omega
          clear hoc hlt' hqv
          generalize openN vs t (leastOf ms) q = cs at *
          generalize winN vs t q = won at *
          have hsl2 : Sl 3 cellL wr (some ⟨G, 0, none⟩) cs := by
            have h7 := (Hown2.out.sl0 fun _ => rfl).take cs.length
            rwa [List.take_left] at h7
          have hclone := fun W hW => cloneCells_any G 0 cs.length cs W hW (by omega)
          rcases Nat.eq_zero_or_pos won with h0 | h0
          · subst h0
            go_wp2_with fail
            refine (hclone _ hsl2).mono ?_
            rintro e w6 ⟨v6, rfl, hown6, hb6⟩
            go_wp2_with fail
            go_ret3
            refine ⟨v6, ?_, ?_, ?_⟩
            · rw [Hlt'.out]; simp
            · rw [Hoc.out]; exact hown6.mono hb2.size
            · exact hb2.trans (hb6.mono hb2.size)
          · have b0 : decide (0 < won) = true := by simp; omega
            rcases Nat.eq_zero_or_pos cs.length with h1 | h1
            · have b1 : ((cs.length : Int) == 0) = true := by simp [h1]
              have B1 := Lib.hid h1
              clear h1
              go_wp2_with fail
              refine (hclone _ hsl2).mono ?_
              rintro e w6 ⟨v6, rfl, hown6, hb6⟩
              go_wp2_with fail
              go_ret3
              refine ⟨v6, ?_, ?_, ?_⟩
              · rw [Hlt'.out, List.eq_nil_of_length_eq_zero B1.out]; simp [h0]
              · rw [Hoc.out]; exact hown6.mono hb2.size
              · exact hb2.trans (hb6.mono hb2.size)
            · have b1 : ((cs.length : Int) == 0) = false := by simp; intro e; subst e; simp at h1
              go_wp2_with fail
              refine (hclone _ hsl2).mono ?_
              rintro e w6 ⟨v6, rfl, hown6, hb6⟩
              go_wp2_with fail
              go_ret3
              refine ⟨v6, ?_, ?_, ?_⟩
              · rw [Hlt'.out]
                have : cs.isEmpty = false := by cases cs with
                  | nil => simp at h1
                  | cons => rfl
                simp [this]
              · rw [Hoc.out]; exact hown6.mono hb2.size
              · exact hb2.trans (hb6.mono hb2.size)
end Go.Proofs.Ytaicecnfodhlcaa
/- Equality of cells; maps whose keys are cells. -/
set_option linter.unusedVariables false
set_option linter.unusedSimpArgs false
namespace Go.Proofs.Ytaicecnfodhlcaa
open Go.RowKit

/-! ### '==' at a struct -/
section
variable {P : Program} {w : World} {d : Nat} {xs ys : Array Value} {f : Field} {fs : List Field} {a b : Value} {r s : Bool}
theorem fields_last (hn : (f.name == "_") = false) (ha : (part f.type xs f.offset).run P w = .ok a w) (hb : (part f.type ys f.offset).run P w = .ok b w) (he : (Op.equalIn d f.type a b).run P w = .ok r w) : (Op.eqFields d xs ys [f]).run P w = .ok r w := by
  have hn' : f.name ≠ "_" := by simpa using hn
  simp only [Op.eqFields, if_pos hn', Sem.run_bind, ha, hb, he, Result.andThen_ok]
  cases r <;> simp
theorem fields_cons (hn : (f.name == "_") = false) (ha : (part f.type xs f.offset).run P w = .ok a w) (hb : (part f.type ys f.offset).run P w = .ok b w) (he : (Op.equalIn d f.type a b).run P w = .ok r w) (hr : (Op.eqFields d xs ys fs).run P w = .ok s w) : (Op.eqFields d xs ys (f :: fs)).run P w = .ok (r && s) w := by
  have hn' : f.name ≠ "_" := by simpa using hn
  rw [Op.eqFields]
  simp only [if_pos hn', Sem.run_bind, ha, hb, he, Result.andThen_ok]
  cases r
  · simp
  · simpa using hr
theorem eq_struct {t : TypeId} {fs : Array Field} (hu : P.underlying t = some (.struct fs)) (hp : P.stoodInHeld t = false) (h : (Op.eqFields d xs ys fs.toList).run P w = .ok r w) : (Op.equalIn (d + 1) t (.agg xs) (.agg ys)).run P w = .ok r w := by
  have hf : P.fieldsOf t = fs := by simp [Program.fieldsOf, hu]
  rw [run_equalIn_struct (P := P) w d t xs ys (by rw [hf]; exact hu) hp, hf]
  exact h
end

abbrev cellV (c : Cell) : Value := .agg #[.int .i64 c.v, .string c.k, .int .i64 c.s]
abbrev viewV (c : View) : Value := .agg #[.int .i64 c.size, .int .i64 c.slide, .int .i64 c.late]

theorem beq_bytes (a b : ByteArray) : (a.toList == b.toList) = decide (a = b) := by
  rw [← beq_toListBytes]
  obtain ⟨x⟩ := a
  obtain ⟨y⟩ := b
  show (x == y) = decide ((⟨x⟩ : ByteArray) = ⟨y⟩)
  by_cases h : x = y
  · subst h; simp
  · simp [h]

theorem equal_cell (n : Nat) (v1 : Int) (k1 : ByteArray) (s1 : Int) (v2 : Int) (k2 : ByteArray) (s2 : Int) (w : World) : (Op.equalIn (n + 2) 46 (.agg #[.int .i64 v1, .string k1, .int .i64 s1]) (.agg #[.int .i64 v2, .string k2, .int .i64 s2])).run Try.prog w = .ok (decide ((⟨v1, k1, s1⟩ : Cell) = ⟨v2, k2, s2⟩)) w := by
  have e : decide ((⟨v1, k1, s1⟩ : Cell) = ⟨v2, k2, s2⟩) = ((v1 == v2) && ((k1.toList == k2.toList) && (s1 == s2))) := by
    rw [beq_bytes, Bool.eq_iff_iff]
    simp
  rw [e]
  refine eq_struct Try.underlying46 (by kernel_rfl) ?_
  refine fields_cons (by rfl) (by go_simp; rfl) (by go_simp; rfl) (by go_simp) ?_
  refine fields_cons (by rfl) (by go_simp; rfl) (by go_simp; rfl) (by go_simp) ?_
  exact fields_last (by rfl) (by go_simp; rfl) (by go_simp; rfl) (by go_simp)
theorem equal_view (n : Nat) (v1 k1 s1 v2 k2 s2 : Int) (w : World) : (Op.equalIn (n + 2) 76 (.agg #[.int .i64 v1, .int .i64 k1, .int .i64 s1]) (.agg #[.int .i64 v2, .int .i64 k2, .int .i64 s2])).run Try.prog w = .ok (decide ((⟨v1, k1, s1⟩ : View) = ⟨v2, k2, s2⟩)) w := by
  have e : decide ((⟨v1, k1, s1⟩ : View) = ⟨v2, k2, s2⟩) = ((v1 == v2) && ((k1 == k2) && (s1 == s2))) := by
    rw [Bool.eq_iff_iff]
    simp
  rw [e]
  refine eq_struct Try.underlying76 (by kernel_rfl) ?_
  refine fields_cons (by rfl) (by go_simp; rfl) (by go_simp; rfl) (by go_simp) ?_
  refine fields_cons (by rfl) (by go_simp; rfl) (by go_simp; rfl) (by go_simp) ?_
  exact fields_last (by rfl) (by go_simp; rfl) (by go_simp; rfl) (by go_simp)

theorem run_eql_cell (v1 : Int) (k1 : ByteArray) (s1 : Int) (v2 : Int) (k2 : ByteArray) (s2 : Int) (w : World) : (binOp .eql 46 (.agg #[.int .i64 v1, .string k1, .int .i64 s1]) (.agg #[.int .i64 v2, .string k2, .int .i64 s2])).run Try.prog w = .ok (.bool (decide ((⟨v1, k1, s1⟩ : Cell) = ⟨v2, k2, s2⟩))) w := by
  rw [run_eql_struct, equal_cell]; rfl
theorem run_neq_cell (v1 : Int) (k1 : ByteArray) (s1 : Int) (v2 : Int) (k2 : ByteArray) (s2 : Int) (w : World) : (binOp .neq 46 (.agg #[.int .i64 v1, .string k1, .int .i64 s1]) (.agg #[.int .i64 v2, .string k2, .int .i64 s2])).run Try.prog w = .ok (.bool (!decide ((⟨v1, k1, s1⟩ : Cell) = ⟨v2, k2, s2⟩))) w := by
  rw [run_neq_struct, equal_cell]; rfl
theorem run_eql_view (v1 k1 s1 v2 k2 s2 : Int) (w : World) : (binOp .eql 76 (.agg #[.int .i64 v1, .int .i64 k1, .int .i64 s1]) (.agg #[.int .i64 v2, .int .i64 k2, .int .i64 s2])).run Try.prog w = .ok (.bool (decide ((⟨v1, k1, s1⟩ : View) = ⟨v2, k2, s2⟩))) w := by
  rw [run_eql_struct, equal_view]; rfl

theorem checkKey_cell (b : Bool) (v : Int) (k : ByteArray) (s : Int) (w : World) : (Instr.checkKey b 10000 46 (.agg #[.int .i64 v, .string k, .int .i64 s])).run Try.prog w = .ok () w := by
  kernel_rfl

/-! ### maps -/
/-- What the laws ask of a key type: κ's members stand as kV. -/
structure KeyT (P : Program) (kt : TypeId) {κ : Type} (kV : κ → Value) : Prop where
  check : ∀ (b : Bool) (c : κ) (w : World), (Instr.checkKey b 10000 kt (kV c)).run P w = .ok () w
  bits : ∀ c, Instr.sameBits 10000 (kV c) (kV c) = true
  hit : ∀ (w : World) (c : κ) (es : List MapEntry) (cs : List κ), es.map (·.key) = cs.map kV → c ∈ cs → ∃ (j : Nat) (hj : j < es.length), cs[j]? = some c ∧ (Instr.findKey kt (kV c) es).run P w = .ok (some (j, es[j].val)) w
  miss : ∀ (w : World) (c : κ) (es : List MapEntry) (cs : List κ), es.map (·.key) = cs.map kV → c ∉ cs → (Instr.findKey kt (kV c) es).run P w = .ok none w

/-- BLOCK r IS A MAP THAT HOLDS m (keys, values; each key once). -/
structure MapIs {κ : Type} (kV : κ → Value) (w : World) (r : Nat) (m : List (κ × Value)) : Prop where
  nd : (m.map (·.1)).Nodup
  blk : ∃ es clock, w.heap[r]? = some (.map es clock) ∧ es.toList.map (fun e => (e.key, e.val)) = m.map (fun p => (kV p.1, p.2)) ∧ (es.toList.map (·.born)).Nodup ∧ ∀ e ∈ es.toList, e.born < clock

section
variable {κ : Type} {kV : κ → Value} {w : World} {r : Nat} {m : List (κ × Value)}
theorem MapIs.lt (h : MapIs kV w r m) : r < w.heap.size := by obtain ⟨es, clock, hb, _⟩ := h.blk; exact lt_of_block hb
theorem MapIs.keep {w' : World} (h : MapIs kV w r m) (hb : w'.heap[r]? = w.heap[r]?) : MapIs kV w' r m := by
  obtain ⟨hn, es, clock, h1, h2⟩ := h
  exact ⟨hn, es, clock, hb.trans h1, h2⟩
theorem MapIs.new (w : World) : MapIs kV (w.alloc (.map #[] 0)) w.heap.size ([] : List (κ × Value)) :=
  ⟨by simp, #[], 0, blk_at rfl, by simp, by simp, by simp⟩

theorem keys_of {m : List (κ × Value)} {es : List MapEntry} (h : es.map (fun e => (e.key, e.val)) = m.map (fun p => (kV p.1, p.2))) : es.map (·.key) = (m.map (·.1)).map kV := by
  have := congrArg (List.map (·.1)) h
  simpa [Function.comp_def] using this
def putMap (w : World) (r : Nat) (es : Array MapEntry) (clock : Nat) : World := { w with heap := w.heap.setIfInBounds r (.map es clock) }
theorem putMap_at {w : World} {r : Nat} {es : Array MapEntry} {clock : Nat} (h : r < w.heap.size) : (putMap w r es clock).heap[r]? = some (.map es clock) := by
  simp [putMap, h]
theorem grown_putMap (w : World) (r : Nat) (es : Array MapEntry) (clock : Nat) : w.grownBy (putMap w r es clock) (some r) :=
  ⟨rfl, rfl, rfl, by simp [putMap], fun k _ hk => by
    show (w.heap.setIfInBounds r _)[k]? = _
    rw [Array.getElem?_setIfInBounds, if_neg (fun e => hk (by rw [e]))]⟩
theorem eraseIdx_map' {α β : Type} (f : α → β) : ∀ (l : List α) (j : Nat), (l.map f).eraseIdx j = (l.eraseIdx j).map f
  | [], _ => rfl
  | _ :: _, 0 => rfl
  | x :: r, j + 1 => by simp [eraseIdx_map' f r j]
theorem map_modify_same {α β : Type} {f : α → α} {g : α → β} (h : ∀ x, g (f x) = g x) {l : List α} {j : Nat} : (l.modify j f).map g = l.map g := by
  apply List.ext_getElem?
  intro i
  simp only [List.getElem?_map, List.getElem?_modify]
  split
  · cases l[i]? <;> simp [h]
  · simp

variable [DecidableEq κ]
theorem filter_eraseIdx {m : List (κ × Value)} (hn : (m.map (·.1)).Nodup) {j : Nat} {c : κ} (hj : (m.map (·.1))[j]? = some c) : (m.filter fun p => p.1 ≠ c) = m.eraseIdx j := by
  induction m generalizing j with
  | nil => rfl
  | cons p r ih =>
    simp only [List.map_cons, List.nodup_cons] at hn
    cases j with
    | zero =>
      simp at hj
      subst hj
      rw [List.filter_cons_of_neg (by simp), List.eraseIdx_cons_zero, List.filter_eq_self]
      intro q hq
      simp
      intro e
      exact hn.1 (e ▸ List.mem_map.2 ⟨q, hq, rfl⟩)
    | succ j =>
      simp only [List.map_cons, List.getElem?_cons_succ] at hj
      have hne : p.1 ≠ c := by
        intro e
        apply hn.1
        rw [e]
        exact List.mem_of_getElem? hj
      rw [List.filter_cons_of_pos (by simpa using hne), List.eraseIdx_cons_succ, ih hn.2 hj]

/-- m with a key's value laid. -/
def mPut (m : List (κ × Value)) (c : κ) (x : Value) : List (κ × Value) := if c ∈ m.map (·.1) then m.map fun p => if p.1 = c then (c, x) else p else m ++ [(c, x)]
def mDel (m : List (κ × Value)) (c : κ) : List (κ × Value) := m.filter fun p => p.1 ≠ c
def mGet (m : List (κ × Value)) (c : κ) : Option Value := (m.find? fun p => p.1 = c).map (·.2)

theorem at_key {m : List (κ × Value)} (hn : (m.map (·.1)).Nodup) {j : Nat} {c : κ} (hj : (m.map (·.1))[j]? = some c) : ∃ x, m[j]? = some (c, x) ∧ mGet m c = some x := by
  rw [List.getElem?_map, Option.map_eq_some_iff] at hj
  obtain ⟨⟨d, x⟩, h1, h2⟩ := hj
  simp at h2
  subst h2
  refine ⟨x, h1, ?_⟩
  unfold mGet
  have hmem : (d, x) ∈ m := List.mem_of_getElem? h1
  have : m.find? (fun p => p.1 = d) = some (d, x) := by
    clear h1 j
    induction m with
    | nil => simp at hmem
    | cons p r ih =>
      simp only [List.map_cons, List.nodup_cons] at hn
      rw [List.find?_cons]
      by_cases e : p.1 = d
      · have : (d, x) = p := by
          rcases List.mem_cons.1 hmem with h | h
          · exact h
          · exact absurd (List.mem_map.2 ⟨_, h, rfl⟩) (e ▸ hn.1)
        simp [← this]
      · simp only [decide_eq_false e]
        refine ih hn.2 ?_
        rcases List.mem_cons.1 hmem with h | h
        · exact absurd (congrArg Prod.fst h).symm e
        · exact h
  rw [this]; rfl
theorem mGet_none {m : List (κ × Value)} {c : κ} (h : c ∉ m.map (·.1)) : mGet m c = none := by
  unfold mGet
  rw [List.find?_eq_none.2]
  · rfl
  · intro p hp e
    simp at e
    exact h (List.mem_map.2 ⟨p, hp, e⟩)
theorem mGet_some {m : List (κ × Value)} (hn : (m.map (·.1)).Nodup) {c : κ} {x : Value} (h : (c, x) ∈ m) : mGet m c = some x := by
  obtain ⟨j, hj, e⟩ := List.getElem_of_mem h
  obtain ⟨y, h1, h2⟩ := at_key hn (j := j) (c := c) (by rw [List.getElem?_map, List.getElem?_eq_getElem hj, e]; rfl)
  rw [List.getElem?_eq_getElem hj, e] at h1
  cases h1
  exact h2

section ops
variable {P : Program} {t kt et : TypeId} (K : KeyT P kt kV) (ht : P.underlying t = some (.map kt et))
include K ht

/-- 'x, ok := m[k]' and 'm[k]'. -/
theorem MapIs.lookup (h : MapIs kV w r m) (c : κ) (ok : Bool) {z : Value} (hz : (zeroValue et).run P w = .ok z w) :
    (Instr.lookup t (.map (some r)) (kV c) ok).run P w = .ok (if ok then .tuple #[(mGet m c).getD z, .bool (mGet m c).isSome] else (mGet m c).getD z) w := by
  obtain ⟨hn, es, clock, hb, hk, _⟩ := h
  have hkeys := keys_of hk
  by_cases hc : c ∈ m.map (·.1)
  · obtain ⟨j, hj, h1, h2⟩ := K.hit w c es.toList (m.map (·.1)) hkeys hc
    obtain ⟨x, h3, h4⟩ := at_key hn h1
    have hx : es.toList[j].val = x := by
      have := congrArg (·[j]?) hk
      simp only [List.getElem?_map, h3, List.getElem?_eq_getElem hj] at this
      simp at this
      exact this.2
    rw [h4]
    cases ok <;> simp [Instr.lookup, run_underlying ht, MapKept.run_getObj_map hb, K.check, h2, Result.andThen, hx] <;> exact hx
  · have h2 := K.miss w c es.toList (m.map (·.1)) hkeys hc
    rw [mGet_none hc]
    cases ok <;> simp [Instr.lookup, run_underlying ht, MapKept.run_getObj_map hb, K.check, h2, Result.andThen, hz]

/-- 'm[k] = x'. -/
theorem MapIs.update (h : MapIs kV w r m) (c : κ) (x : Value) :
    ∃ w', (Instr.mapUpdate t (.map (some r)) (kV c) x).run P w = .ok () w' ∧ MapIs kV w' r (mPut m c x) ∧ w.grownBy w' (some r) ∧ w'.heap.size = w.heap.size := by
  obtain ⟨hn, es, clock, hb, hk, hbn, hbl⟩ := h
  have hkeys := keys_of hk
  by_cases hc : c ∈ m.map (·.1)
  · obtain ⟨j, hj, h1, h2⟩ := K.hit w c es.toList (m.map (·.1)) hkeys hc
    obtain ⟨x0, h3, h4⟩ := at_key hn h1
    have hkj : es.toList[j].key = kV c := by
      have := congrArg (·[j]?) hkeys
      simp only [List.getElem?_map, List.getElem?_eq_getElem hj] at this
      rw [List.getElem?_map] at h1
      rw [h1] at this
      simpa using this
    have hkj' : ((es[j]?).map (·.key)).getD (kV c) = kV c := by
      have hjs : j < es.size := by simpa using hj
      rw [Array.getElem?_eq_getElem hjs]
      simpa using hkj
    have hrun : (Instr.mapUpdate t (.map (some r)) (kV c) x).run P w = .ok () (putMap w r (es.modify j fun e => { e with key := kV c, val := x }) clock) := by
      simp [Instr.mapUpdate, run_underlying ht, MapKept.run_getObj_map hb, K.check, h2, Result.andThen, setObj, Sem.run, hb, hkj', Instr.keyThatStays, K.bits, putMap]
    refine ⟨_, hrun, ⟨?_, _, _, putMap_at (lt_of_block hb), ?_, ?_, ?_⟩, grown_putMap _ _ _ _, by simp [putMap]⟩
    · rw [mPut, if_pos hc, List.map_map]
      have : ((fun x => x.1) ∘ fun p : κ × Value => if p.1 = c then (c, x) else p) = fun p => p.1 := by
        funext p; simp only [Function.comp]; split <;> simp_all
      rw [this]; exact hn
    · rw [mPut, if_pos hc, Array.toList_modify]
      apply List.ext_getElem?
      intro i
      have hki := congrArg (·[i]?) hk
      simp only [List.getElem?_map] at hki ⊢
      rw [List.getElem?_modify]
      by_cases e : j = i
      · subst e
        simp only [if_true, h3, List.getElem?_eq_getElem hj]
        simp
      · simp only [if_neg e, Option.map_eq_map, Option.map_id', hki]
        cases hm : m[i]? with
        | none => rfl
        | some p =>
          have hp : p.1 ≠ c := by
            intro ep
            apply e
            have hi1 : (m.map (·.1))[i]? = some c := by rw [List.getElem?_map, hm]; simp [ep]
            have hjl := (List.getElem?_eq_some_iff.1 h1)
            have hil := (List.getElem?_eq_some_iff.1 hi1)
            exact (List.getElem_inj hn).1 (hjl.2.trans hil.2.symm)
          simp [hp]
    · rw [Array.toList_modify, map_modify_same (f := fun e : MapEntry => { e with key := kV c, val := x }) (g := (·.born)) (fun e => rfl)]; exact hbn
    · intro e he
      rw [Array.toList_modify] at he
      obtain ⟨i, hi, e1⟩ := List.getElem_of_mem he
      simp at hi
      rw [List.getElem_modify] at e1
      have hb1 := hbl _ (List.getElem_mem hi)
      split at e1 <;> (rw [← e1]; exact hb1)
  · have h2 := K.miss w c es.toList (m.map (·.1)) hkeys hc
    have hrun : (Instr.mapUpdate t (.map (some r)) (kV c) x).run P w = .ok () (putMap w r (es.push { key := kV c, val := x, born := clock }) (clock + 1)) := by
      simp [Instr.mapUpdate, run_underlying ht, MapKept.run_getObj_map hb, K.check, h2, Result.andThen, setObj, Sem.run, hb, putMap]
    refine ⟨_, hrun, ⟨?_, _, _, putMap_at (lt_of_block hb), ?_, ?_, ?_⟩, grown_putMap _ _ _ _, by simp [putMap]⟩
    · rw [mPut, if_neg hc, List.map_append]
      exact List.nodup_append.2 ⟨hn, by simp, by intro a ha b hb' e; simp at hb'; subst hb'; subst e; exact hc ha⟩
    · rw [mPut, if_neg hc]; simp [hk]
    · rw [Array.toList_push, List.map_append]
      refine List.nodup_append.2 ⟨hbn, by simp, ?_⟩
      intro a ha b hb' e
      simp at hb'
      obtain ⟨y, hy, rfl⟩ := List.mem_map.1 ha
      have := hbl y hy
      omega
    · intro e he
      rw [Array.toList_push] at he
      rcases List.mem_append.1 he with h | h
      · have := hbl e h; omega
      · simp at h; subst h; simp

/-- 'delete(m, k)'. -/
theorem MapIs.delete (h : MapIs kV w r m) (c : κ) (ty : TypeId) :
    ∃ w', (Builtin.delete_ #[t, kt] ty #[.map (some r), kV c]).run P w = .ok (.tuple #[]) w' ∧ MapIs kV w' r (mDel m c) ∧ w.grownBy w' (some r) ∧ w'.heap.size = w.heap.size := by
  obtain ⟨hn, es, clock, hb, hk, hbn, hbl⟩ := h
  have hkeys := keys_of hk
  by_cases hc : c ∈ m.map (·.1)
  · obtain ⟨j, hj, h1, h2⟩ := K.hit w c es.toList (m.map (·.1)) hkeys hc
    obtain ⟨x0, h3, h4⟩ := at_key hn h1
    have hjs : j < es.size := by simpa using hj
    have hrun : (Builtin.delete_ #[t, kt] ty #[.map (some r), kV c]).run P w = .ok (.tuple #[]) (putMap w r (es.eraseIdxIfInBounds j) clock) := by
      simp [Builtin.delete_, run_underlying ht, MapKept.run_getObj_map hb, K.check, h2, Result.andThen, setObj, Sem.run, hb, putMap]
    have he : (es.eraseIdxIfInBounds j).toList = es.toList.eraseIdx j := by simp [Array.eraseIdxIfInBounds, hjs]
    have hdel : mDel m c = m.eraseIdx j := by
      unfold mDel
      exact filter_eraseIdx hn h1
    refine ⟨_, hrun, ⟨?_, _, _, putMap_at (lt_of_block hb), ?_, ?_, ?_⟩, grown_putMap _ _ _ _, by simp [putMap]⟩
    · rw [hdel, ← eraseIdx_map']; exact hn.eraseIdx _
    · rw [he, hdel, ← eraseIdx_map', ← eraseIdx_map', hk]
    · rw [he, ← eraseIdx_map']; exact hbn.eraseIdx _
    · intro e hm
      rw [he] at hm
      exact hbl e (List.mem_of_mem_eraseIdx hm)
  · have h2 := K.miss w c es.toList (m.map (·.1)) hkeys hc
    have hrun : (Builtin.delete_ #[t, kt] ty #[.map (some r), kV c]).run P w = .ok (.tuple #[]) (putMap w r es clock) := by
      simp [Builtin.delete_, run_underlying ht, MapKept.run_getObj_map hb, K.check, h2, Result.andThen, setObj, Sem.run, hb, putMap]
    have hdel : mDel m c = m := by
      unfold mDel
      rw [List.filter_eq_self]
      intro p hp
      simp
      intro e
      exact hc (List.mem_map.2 ⟨p, hp, e⟩)
    exact ⟨_, hrun, ⟨by rw [hdel]; exact hn, _, _, putMap_at (lt_of_block hb), by rw [hdel]; exact hk, hbn, hbl⟩, grown_putMap _ _ _ _, by simp [putMap]⟩
end ops

end
/-- 'len(m)'. -/
theorem MapIs.len {κ : Type} {kV : κ → Value} {w : World} {r : Nat} {m : List (κ × Value)} {P : Program} {t kt et : TypeId} (ht : P.underlying t = some (.map kt et)) (h : MapIs kV w r m) (ty : TypeId) : (Builtin.len_ #[t] ty #[.map (some r)]).run P w = .ok (.int .i64 m.length) w := by
  obtain ⟨hn, es, clock, hb, hk, _⟩ := h
  have : es.size = m.length := by
    have := congrArg List.length hk
    simpa using this
  simp [Builtin.len_, run_underlying ht, MapKept.run_getObj_map hb, Result.andThen, goInt, this]

/-! ### a range over a map whose round leaves the map alone -/
theorem filter_eraseIdx2 {α β : Type} [DecidableEq β] {f : α → β} {l : List α} (hn : (l.map f).Nodup) {j : Nat} {x : α} (hj : l[j]? = some x) : (l.filter fun y => decide (f y ≠ f x)) = l.eraseIdx j := by
  induction l generalizing j with
  | nil => rfl
  | cons p r ih =>
    simp only [List.map_cons, List.nodup_cons] at hn
    cases j with
    | zero =>
      simp at hj
      subst hj
      rw [List.filter_cons_of_neg (by simp), List.eraseIdx_cons_zero, List.filter_eq_self]
      intro q hq
      simp
      intro e
      exact hn.1 (e ▸ List.mem_map.2 ⟨q, hq, rfl⟩)
    | succ j =>
      simp only [List.getElem?_cons_succ] at hj
      have hne : f p ≠ f x := by
        intro e
        apply hn.1
        rw [e]
        exact List.mem_map.2 ⟨x, List.mem_of_getElem? hj, rfl⟩
      rw [List.filter_cons_of_pos (by simpa using hne), List.eraseIdx_cons_succ, ih hn.2 hj]

/-- THE ITERATOR it GOES OVER THE MAP r, WHICH HOLDS m; left IS STILL TO COME. -/
structure Ranging {κ : Type} (kV : κ → Value) (w : World) (r it : Nat) (m left : List (κ × Value)) : Prop where
  nd : (m.map (·.1)).Nodup
  sub : left.Sublist m
  blk : ∃ es clock seen, w.heap[r]? = some (.map es clock) ∧ es.toList.map (fun e => (e.key, e.val)) = m.map (fun p => (kV p.1, p.2)) ∧ (es.toList.map (·.born)).Nodup ∧ (∀ e ∈ es.toList, e.born < clock) ∧
    w.heap[it]? = some (.mapIter (some r) clock seen clock) ∧ (es.toList.filter fun e => !seen.contains e.born).map (fun e => (e.key, e.val)) = left.map (fun p => (kV p.1, p.2))

theorem Ranging.lt {κ : Type} {kV : κ → Value} {w : World} {r it : Nat} {m left : List (κ × Value)} (h : Ranging kV w r it m left) : r < w.heap.size ∧ it < w.heap.size := by
  obtain ⟨_, _, es, clock, seen, h1, _, _, _, h2, _⟩ := h
  exact ⟨lt_of_block h1, lt_of_block h2⟩
theorem Ranging.mapIs {κ : Type} {kV : κ → Value} {w : World} {r it : Nat} {m left : List (κ × Value)} (h : Ranging kV w r it m left) : MapIs kV w r m := by
  obtain ⟨h0, _, es, clock, seen, h1, h2, h3, h4, _⟩ := h
  exact ⟨h0, es, clock, h1, h2, h3, h4⟩
theorem Ranging.keep {κ : Type} {kV : κ → Value} {w w' : World} {r it : Nat} {m left : List (κ × Value)} (h : Ranging kV w r it m left) (hr : w'.heap[r]? = w.heap[r]?) (hi : w'.heap[it]? = w.heap[it]?) : Ranging kV w' r it m left := by
  obtain ⟨h0, hs, es, clock, seen, h1, h2, h3, h4, h5, h6⟩ := h
  exact ⟨h0, hs, es, clock, seen, hr.trans h1, h2, h3, h4, hi.trans h5, h6⟩

theorem MapIs.range {κ : Type} {kV : κ → Value} {w : World} {r : Nat} {m : List (κ × Value)} {P : Program} {t kt et : TypeId} (ht : P.underlying t = some (.map kt et)) (h : MapIs kV w r m) :
    ∃ w', (Instr.range t (.map (some r))).run P w = .ok (.pointer (some ⟨w.heap.size, 0, none⟩)) w' ∧ Ranging kV w' r w.heap.size m m ∧ w.grownBy w' none ∧ w'.heap.size = w.heap.size + 1 := by
  obtain ⟨hn, es, clock, hb, hk, h3, h4⟩ := h
  refine ⟨w.alloc (.mapIter (some r) clock #[] clock), ?_, ⟨hn, List.Sublist.refl _, es, clock, #[], ?_, hk, h3, h4, blk_at rfl, ?_⟩, World.grownBy_alloc _ _ _, by simp⟩
  · simp only [Instr.range, Sem.run_bind, run_underlying ht, MapKept.run_getObj_map hb, Result.andThen, newObj, Sem.run, Sem.run_pure]
    rfl
  · rw [blk_old (lt_of_block hb)]; exact hb
  · rw [← hk]; congr 1; rw [List.filter_eq_self]; simp

/-- The step: nothing is left, or one of those that are left comes. -/
theorem Ranging.next {κ : Type} [DecidableEq κ] {kV : κ → Value} {w : World} {r it : Nat} {m left : List (κ × Value)} {P : Program} (h : Ranging kV w r it m left) (ty : TypeId) :
    (left = [] ∧ (Instr.next (.pointer (some ⟨it, 0, none⟩)) false ty).run P w = .ok (.tuple #[.bool false]) w) ∨
    ∃ p w', p ∈ left ∧ (Instr.next (.pointer (some ⟨it, 0, none⟩)) false ty).run P w = .ok (.tuple #[.bool true, kV p.1, p.2]) w' ∧ Ranging kV w' r it m (left.filter fun q => decide (q.1 ≠ p.1)) ∧ w.grownBy w' (some it) ∧ w'.heap.size = w.heap.size ∧
      (Instr.entry (.pointer (some ⟨it, 0, none⟩))).run P w' = .ok (.tuple #[kV p.1, p.2]) w' := by
  obtain ⟨hn, hs, es, clock, seen, hb, hk, hbn, hbl, hit, hleft⟩ := h
  have hL : (leftOf es seen).toList = es.toList.filter fun e => !seen.contains e.born := by simp [leftOf]
  have hne : it ≠ r := by rintro rfl; rw [hb] at hit; cases hit
  have hsize := congrArg List.length hleft
  simp only [List.length_map] at hsize
  rcases run_next_at (P := P) w ty it r clock clock seen es clock hit hb hbl (Nat.le_refl _) with ⟨h0, hrun⟩ | ⟨e, he, w1, hw1, hrun⟩
  · left
    refine ⟨?_, hrun⟩
    rw [← hL, Array.length_toList, h0] at hsize
    exact List.eq_nil_of_length_eq_zero hsize.symm
  · right
    rw [hL] at he
    obtain ⟨q, hq, eq⟩ := List.getElem_of_mem he
    have hql : q < left.length := by omega
    have hkv := congrArg (·[q]?) hleft
    simp only [List.getElem?_map, List.getElem?_eq_getElem hq, List.getElem?_eq_getElem hql, eq, Option.map_some, Option.some.injEq, Prod.mk.injEq] at hkv
    have hes : e ∈ es.toList := (List.mem_filter.1 he).1
    have hw1h : w1.heap = w.heap := by rcases hw1 with rfl | rfl <;> rfl
    have hlt := lt_of_block hit
    refine ⟨left[q], ChangeMaps.setBlock w1 it (.mapIter (some r) clock (seen.push e.born) clock), List.getElem_mem _, ?_, ⟨hn, (List.filter_sublist).trans hs, es, clock, seen.push e.born, ?_, hk, hbn, hbl, ?_, ?_⟩, ?_, ?_, ?_⟩
    · rw [← hkv.1, ← hkv.2]; exact hrun
    · show (w1.heap.setIfInBounds it _)[r]? = _
      rw [Array.getElem?_setIfInBounds, if_neg hne, hw1h]; exact hb
    · show (w1.heap.setIfInBounds it _)[it]? = _
      rw [hw1h]; simp [hlt]
    · have e1 : (es.toList.filter fun x => !(seen.push e.born).contains x.born) = (es.toList.filter fun x => !seen.contains x.born).filter fun x => decide (x.born ≠ e.born) := by
        rw [List.filter_filter]
        apply List.filter_congr
        intro x _
        rw [Array.contains_push]
        cases seen.contains x.born <;> simp [Bool.beq_eq_decide_eq]
      rw [e1]
      have hsubn : ((es.toList.filter fun x => !seen.contains x.born).map (·.born)).Nodup := hbn.sublist (List.Sublist.map _ List.filter_sublist)
      have hln : (left.map (·.1)).Nodup := hn.sublist (List.Sublist.map _ hs)
      rw [filter_eraseIdx2 (f := fun x : MapEntry => x.born) hsubn (j := q) (x := e) (by rw [List.getElem?_eq_getElem hq, eq]),
        filter_eraseIdx2 (f := fun x : κ × Value => x.1) hln (j := q) (x := left[q]) (List.getElem?_eq_getElem hql), ← eraseIdx_map', ← eraseIdx_map', hleft]
    · refine ⟨by rcases hw1 with rfl | rfl <;> rfl, by rcases hw1 with rfl | rfl <;> rfl, by rcases hw1 with rfl | rfl <;> rfl, by simp [ChangeMaps.setBlock, hw1h], fun k _ hkn => ?_⟩
      show (w1.heap.setIfInBounds it _)[k]? = _
      rw [Array.getElem?_setIfInBounds, if_neg (fun e => hkn (by rw [e])), hw1h]
    · simp [ChangeMaps.setBlock, hw1h]
    · rw [← hkv.1, ← hkv.2]
      refine run_entry_at _ it r clock seen es clock e ?_ ?_ hes hbn
      · show (w1.heap.setIfInBounds it _)[it]? = _
        rw [hw1h]; simp [hlt]
      · show (w1.heap.setIfInBounds it _)[r]? = _
        rw [Array.getElem?_setIfInBounds, if_neg hne, hw1h]; exact hb
/-! ### the laws at the operations -/
section
variable {κ : Type} {kV : κ → Value} {P : Program} {w : World} {ops : Array Oper} {rest : List Oper} {o : Oper} {a : Act} {Q : Exit → Act → World → Prop} {t kt et : TypeId}

theorem wpList_rangeM (hg : o.guard = none) (x : Operand) (hop : o.op = Op.range t x) (ht : P.underlying t = some (.map kt et)) (r : Nat) (m : List (κ × Value)) (hx : a.eval x = .map (some r)) (h : MapIs kV w r m)
    (hK : ∀ w', Ranging kV w' r w.heap.size m m → w.grownBy w' none → w'.heap.size = w.heap.size + 1 → wpList P ops Q rest (a.put o.dst (.pointer (some ⟨w.heap.size, 0, none⟩))) w') : wpList P ops Q (o :: rest) a w := by
  refine wpList_plain hg fun K' hK' => ?_
  obtain ⟨w', hrun, r1, r2, r3⟩ := h.range ht
  unfold Oper.wp
  simp [execOp, hop, hx, hrun, Result.andThen]
  exact hK' _ _ (hK w' r1 r2 r3)

theorem wpList_nextM [DecidableEq κ] (hg : o.guard = none) (x : Operand) (hop : o.op = Op.next x false) (r it : Nat) (m left : List (κ × Value)) (hx : a.eval x = .pointer (some ⟨it, 0, none⟩)) (h : Ranging kV w r it m left)
    (hDone : left = [] → wpList P ops Q rest (a.put o.dst (.tuple #[.bool false])) w)
    (hMore : ∀ p w', p ∈ left → Ranging kV w' r it m (left.filter fun q => decide (q.1 ≠ p.1)) → w.grownBy w' (some it) → w'.heap.size = w.heap.size → (Instr.entry (.pointer (some ⟨it, 0, none⟩))).run P w' = .ok (.tuple #[kV p.1, p.2]) w' → wpList P ops Q rest (a.put o.dst (.tuple #[.bool true, kV p.1, p.2])) w') : wpList P ops Q (o :: rest) a w := by
  refine wpList_plain hg fun K' hK' => ?_
  unfold Oper.wp
  rcases h.next (P := P) o.type with ⟨h0, hrun⟩ | ⟨p, w', hp, hrun, h1, h2, h3, h4⟩
  · simp [execOp, hop, hx, hrun, Result.andThen]
    exact hK' _ _ (hDone h0)
  · simp [execOp, hop, hx, hrun, Result.andThen]
    exact hK' _ _ (hMore p w' hp h1 h2 h3 h4)
end

/-- .. at keys that are cells. -/
theorem wpList_nextC {P : Program} {w : World} {ops : Array Oper} {rest : List Oper} {o : Oper} {a : Act} {Q : Exit → Act → World → Prop} (hg : o.guard = none) (x : Operand) (hop : o.op = Op.next x false) (r it : Nat) (m left : List (Cell × Value)) (hx : a.eval x = .pointer (some ⟨it, 0, none⟩)) (h : Ranging cellV w r it m left)
    (hDone : left = [] → wpList P ops Q rest (a.put o.dst (.tuple #[.bool false])) w)
    (hMore : ∀ (c : Cell) (y : Value) w', (c, y) ∈ left → Ranging cellV w' r it m (left.filter fun q => decide (q.1 ≠ c)) → w.grownBy w' (some it) → w'.heap.size = w.heap.size → (Instr.entry (.pointer (some ⟨it, 0, none⟩))).run P w' = .ok (.tuple #[.agg #[.int .i64 c.v, .string c.k, .int .i64 c.s], y]) w' → wpList P ops Q rest (a.put o.dst (.tuple #[.bool true, .agg #[.int .i64 c.v, .string c.k, .int .i64 c.s], y])) w') : wpList P ops Q (o :: rest) a w :=
  wpList_nextM hg x hop r it m left hx h hDone fun p w' h1 h2 h3 h4 h5 => hMore p.1 p.2 w' h1 h2 h3 h4 h5

theorem erase_perm {α : Type} : ∀ (l : List α) (q : Nat) (h : q < l.length), (l[q] :: l.eraseIdx q).Perm l
  | x :: r, 0, _ => List.Perm.refl _
  | x :: r, q + 1, h => by
    have ih := erase_perm r q (by simpa using h)
    simp only [List.getElem_cons_succ, List.eraseIdx_cons_succ]
    exact (List.Perm.swap _ _ _).trans (ih.cons x)
theorem left_perm {κ : Type} [DecidableEq κ] {left : List (κ × Value)} (hn : (left.map (·.1)).Nodup) {p : κ × Value} (hp : p ∈ left) : (p.1 :: (left.filter fun q => decide (q.1 ≠ p.1)).map (·.1)).Perm (left.map (·.1)) := by
  obtain ⟨q, hq, e⟩ := List.getElem_of_mem hp
  have e1 := filter_eraseIdx2 (f := fun x : κ × Value => x.1) hn (j := q) (x := p) (by rw [List.getElem?_eq_getElem hq, e])
  rw [e1, ← eraseIdx_map']
  have hq' : q < (left.map (·.1)).length := by simpa using hq
  have : p.1 = (left.map (·.1))[q] := by rw [List.getElem_map, e]
  rw [this]
  exact erase_perm _ q hq'

/-! ### keys: cells, numbers -/
theorem findAsking_hit (c : Cell) (w : World) : ∀ (es : List MapEntry) (cs : List Cell) (i : Nat), es.map (·.key) = cs.map cellV → c ∈ cs →
    ∃ (j : Nat) (hj : j < es.length), cs[j]? = some c ∧ (Instr.findAsking 46 (cellV c) es i).run Try.prog w = .ok (some (i + j, es[j].val)) w
  | [], [], i, _, hc => by simp at hc
  | [], d :: cs, i, h, _ => by simp at h
  | e :: es, [], i, h, _ => by simp at h
  | e :: es, d :: cs, i, h, hc => by
    simp only [List.map_cons, List.cons.injEq] at h
    obtain ⟨h1, h2⟩ := h
    by_cases he : c = d
    · subst he
      refine ⟨0, by simp, rfl, ?_⟩
      rw [Instr.findAsking]
      simp only [Sem.run_bind, h1, Op.equal, Op.maxDepth]
      rw [equal_cell 9998]
      simp
    · obtain ⟨j, hj, h3, h4⟩ := findAsking_hit c w es cs (i + 1) h2 (by
        rcases List.mem_cons.1 hc with h | h
        · exact absurd h he
        · exact h)
      refine ⟨j + 1, by simpa using hj, by simpa using h3, ?_⟩
      rw [Instr.findAsking]
      simp only [Sem.run_bind, h1, Op.equal, Op.maxDepth]
      rw [equal_cell 9998]
      have hd : decide ((⟨c.v, c.k, c.s⟩ : Cell) = ⟨d.v, d.k, d.s⟩) = false := decide_eq_false he
      rw [hd]
      simp only [Result.andThen_ok, Bool.false_eq_true, if_false]
      rw [h4]
      simp
      omega
theorem findAsking_miss (c : Cell) (w : World) : ∀ (es : List MapEntry) (cs : List Cell) (i : Nat), es.map (·.key) = cs.map cellV → c ∉ cs →
    (Instr.findAsking 46 (cellV c) es i).run Try.prog w = .ok none w
  | [], _, i, _, _ => rfl
  | e :: es, [], i, h, _ => by simp at h
  | e :: es, d :: cs, i, h, hc => by
    simp only [List.map_cons, List.cons.injEq] at h
    obtain ⟨h1, h2⟩ := h
    have he : ¬ c = d := fun e => hc (by simp [e])
    rw [Instr.findAsking]
    simp only [Sem.run_bind, h1, Op.equal, Op.maxDepth]
    rw [equal_cell 9998]
    have hd : decide ((⟨c.v, c.k, c.s⟩ : Cell) = ⟨d.v, d.k, d.s⟩) = false := decide_eq_false he
    rw [hd]
    simp only [Result.andThen_ok, Bool.false_eq_true, if_false]
    exact findAsking_miss c w es cs (i + 1) h2 (fun h => hc (List.mem_cons_of_mem _ h))
theorem findKey_cell (c : Cell) (w : World) (e : MapEntry) (es : List MapEntry) (d : Cell) (h : e.key = cellV d) : (Instr.findKey 46 (cellV c) (e :: es)).run Try.prog w = (Instr.findAsking 46 (cellV c) (e :: es)).run Try.prog w := by
  simp [Instr.findKey, run_underlying Try.underlying46, Instr.findNow, h, Instr.sameNow]
theorem keyCell : KeyT Try.prog 46 cellV where
  check b c w := checkKey_cell b c.v c.k c.s w
  bits c := by
    show (decide ((#[Value.int .i64 c.v, .string c.k, .int .i64 c.s] : Array Value).size = _) && _) = true
    simp [Instr.sameBits, beq_toListBytes]
  hit w c es cs h hc := by
    cases es with
    | nil => cases cs <;> simp at h hc
    | cons e es =>
      cases cs with
      | nil => simp at h
      | cons d cs =>
        obtain ⟨j, hj, h1, h2⟩ := findAsking_hit c w (e :: es) (d :: cs) 0 h hc
        simp only [List.map_cons, List.cons.injEq] at h
        exact ⟨j, hj, h1, by rw [findKey_cell c w e es d h.1, h2, Nat.zero_add]⟩
  miss w c es cs h hc := by
    cases es with
    | nil => simp [Instr.findKey, run_underlying Try.underlying46, Instr.findNow]
    | cons e es =>
      cases cs with
      | nil => simp at h
      | cons d cs =>
        have h2 := findAsking_miss c w (e :: es) (d :: cs) 0 h hc
        simp only [List.map_cons, List.cons.injEq] at h
        rw [findKey_cell c w e es d h.1, h2]
end Go.Proofs.Ytaicecnfodhlcaa
/- A key's number; a key's operator. -/
set_option linter.unusedVariables false
set_option linter.unusedSimpArgs false
namespace Go.Proofs.Ytaicecnfodhlcaa
open Go.RowKit

/-- One byte more. -/
def hstep (n c : Int) : Int := IntKind.u64.wrap (bits .xor .u64 n (IntKind.u64.wrap c) * 1099511628211)
/-- What an empty text has. -/
def hseed : Int := 14695981039346656037
/-- A text's number. -/
def hashK (k : ByteArray) : Int := k.data.toList.foldl (fun n b => hstep n (b.toNat : Int)) hseed

set_option maxHeartbeats 1000000 in
theorem hash_any (k : ByteArray) (w : World) (hk : k.size ≤ maxLen) : Calls Try.prog 50 #[.string k] w fun e w' => e = .returned (.int .u64 (hashK k)) ∧ Below w.heap.size w w' := by
  have hc := fun W => run_bytes_of_string (P := Try.prog) W 9 96 5 k Try.underlying9 Try.underlying96 Try.underlying5
  unfold maxLen at hk
  go_enter Try.func50, Try.ntmps50
  go_wp2_with fail
  have hcell : ∀ j (h : j < k.size), (w.alloc (.cells (bytesRow k (grownCap w k.size 0 5)) 5 ((bytesRow k (grownCap w k.size 0 5)).size, (bytesRow k (grownCap w k.size 0 5)).size + 1))).drew.cell? ⟨w.heap.size, j, none⟩ = some (.int .u8 (k.data[j].toNat : Int)) := by
    intro j h
    show (w.alloc _).cell? _ = _
    rw [World.cell?_alloc_mark, bytesRow_at k _ j h]
  have Hcell := Lib.hid hcell
  have hbw : Below w.heap.size w (w.alloc (.cells (bytesRow k (grownCap w k.size 0 5)) 5 ((bytesRow k (grownCap w k.size 0 5)).size, (bytesRow k (grownCap w k.size 0 5)).size + 1))).drew := ((Below.refl _ _).alloc (Nat.le_refl _) _).drew
  clear hcell
  generalize grownCap w k.size 0 5 = cp at *
  generalize (w.alloc (.cells (bytesRow k cp) 5 ((bytesRow k cp).size, (bytesRow k cp).size + 1))).drew = w1 at *
  have hend : (k.data.toList.take k.size).foldl (fun n b => hstep n (b.toNat : Int)) hseed = hashK k := by
    unfold hashK
    rw [List.take_of_length_le (Nat.le_of_eq (by rw [Array.length_toList]; rfl))]
  have Hend := Lib.hid hend
  clear hend
  go_loopg [3, 9] k.size (fun g h i wr => ∃ (j : Nat) (n : Int), j + g = k.size ∧ i = .int .i64 j ∧ h = .int .u64 n ∧ wr = w1 ∧ n = (k.data.toList.take j).foldl (fun n b => hstep n (b.toNat : Int)) hseed)
  case atStart => exact ⟨0, hseed, by omega, rfl, rfl, rfl, by simp⟩
  case round =>
    obtain ⟨j, n, hj, rfl, rfl, rfl, hn⟩ := hrel
    have Hj := Lib.hid hj
    have Hn := Lib.hid hn
    clear hj hn
    by_cases hlt : j < k.size
    · have hb := Hcell.out j hlt
      obtain ⟨c, hc⟩ : ∃ c : Int, c = (k.data[j].toNat : Int) := ⟨_, rfl⟩
      rw [← hc] at hb
      have hs : hstep n c = (k.data.toList.take (j + 1)).foldl (fun n b => hstep n (b.toNat : Int)) hseed := by
        rw [List.take_succ_eq_append_getElem (by rw [Array.length_toList]; exact hlt), List.foldl_append, ← Hn.out, hc]
        rfl
      have Hs := Lib.hid hs
      clear hs hc
      go_wp2_with fail
      go_roundg (k.size - (j + 1))
      case measure => have := Hj.out; omega
      case rel => exact ⟨j + 1, hstep n c, by have := Hj.out; omega, by go_num, rfl, rfl, Hs.out⟩
    · have hjk : j = k.size := by have := Hj.out; omega
      have hn := Hn.out
      rw [hjk, Hend.out] at hn
      have hjk2 := hjk
      clear hjk Hn
      subst hn
      go_wp2_with fail
      go_ret
      exact ⟨rfl, hbw⟩

/-- A key's operator, of so many. -/
def oprK (k : ByteArray) (n : Int) : Int := IntKind.i64.wrap ((IntKind.u64.wrap (hashK k * 11400714819323198485) / 4294967296).tmod n)
theorem oprK_bd (k : ByteArray) {n : Int} (h1 : 1 ≤ n) (h8 : n ≤ 8) : 0 ≤ oprK k n ∧ oprK k n < n := by
  unfold oprK
  generalize hashK k * 11400714819323198485 = z
  have hz : 0 ≤ IntKind.u64.wrap z := by
    have h := IntKind.wrap_u64 z
    rw [h]; exact Int.emod_nonneg _ (by decide)
  have hq : 0 ≤ IntKind.u64.wrap z / 4294967296 := Int.ediv_nonneg hz (by decide)
  generalize IntKind.u64.wrap z / 4294967296 = y at *
  rw [Int.tmod_eq_emod_of_nonneg hq]
  have a := Int.emod_nonneg y (show n ≠ 0 by omega)
  have b := Int.emod_lt_of_pos y (show 0 < n by omega)
  rw [IntWalk.i64_in _ ⟨by omega, by omega⟩]
  exact ⟨a, b⟩

set_option maxHeartbeats 1000000 in
theorem operator_any (mp : Nat) (k : ByteArray) (n : Int) (w : World) (hk : k.size ≤ maxLen) (hc : w.cell? ⟨mp, 2, none⟩ = some (.int .i64 n)) (h1 : 1 ≤ n) (h8 : n ≤ 8) :
    Calls Try.prog 20 #[.pointer (some ⟨mp, 0, none⟩), .string k] w fun e w' => e = .returned (.int .i64 (oprK k n)) ∧ Below w.heap.size w w' := by
  have hh := fun W => hash_any k W hk
  have hlt := World.block_lt_of_cell? _ _ hc
  have kp : ∀ W, Below w.heap.size w W → (Below w.heap.size w W ∧ W.cell? ⟨mp, 2, none⟩ = some (.int .i64 n)) := fun W hW => ⟨hW, (hW.cell hlt).trans hc⟩
  have hbd := (Below.refl w.heap.size w).drew
  have hwn : IntKind.u64.wrap n = n := by unfold IntKind.wrap; simp [IntKind.bits, IntKind.signed]; omega
  have hn0 : (n == 0) = false := by simp; omega
  have hn2 : ¬ n = 0 := by omega
  have hn3 : (0 == n) = false := by simp; omega
  have hn4 : ¬ 0 = n := by omega
  unfold oprK
  generalize hashK k = x at *
  go_enter Try.func20, Try.ntmps20
  go_wp2_with fail
  go_region_held3 (fun W => Below w.heap.size w W ∧ W.cell? ⟨mp, 2, none⟩ = some (.int .i64 n)) (first | exact kp _ hbd | assumption)
    (first | (go_at_call 50; refine (hh _).mono ?_; rintro e w1 ⟨rfl, hb1⟩; have hk1 := kp _ (hbd.trans hb1)))
  go_wp2_with fail
  go_ret
  exact ⟨rfl, hk1.1⟩
end Go.Proofs.Ytaicecnfodhlcaa
/- Maps keyed by whole numbers; nil maps. -/
set_option linter.unusedVariables false
set_option linter.unusedSimpArgs false
namespace Go.Proofs.Ytaicecnfodhlcaa
open Go.RowKit

abbrev intV (n : Int) : Value := .int .i64 n

theorem findNow_hit (n : Int) : ∀ (es : List MapEntry) (cs : List Int) (i : Nat), es.map (·.key) = cs.map intV → n ∈ cs →
    ∃ (j : Nat) (hj : j < es.length), cs[j]? = some n ∧ Instr.findNow (.int .i64) (intV n) es i = some (some (i + j, es[j].val))
  | [], [], i, _, hc => by simp at hc
  | [], d :: cs, i, h, _ => by simp at h
  | e :: es, [], i, h, _ => by simp at h
  | e :: es, d :: cs, i, h, hc => by
    simp only [List.map_cons, List.cons.injEq] at h
    obtain ⟨h1, h2⟩ := h
    by_cases he : n = d
    · subst he
      exact ⟨0, by simp, rfl, by simp [Instr.findNow, h1, Instr.sameNow]⟩
    · obtain ⟨j, hj, h3, h4⟩ := findNow_hit n es cs (i + 1) h2 (by
        rcases List.mem_cons.1 hc with h | h
        · exact absurd h he
        · exact h)
      refine ⟨j + 1, by simpa using hj, by simpa using h3, ?_⟩
      have hb : (n == d) = false := by simpa using he
      simp only [Instr.findNow, h1, Instr.sameNow, if_true, hb]
      rw [h4]
      simp
      omega
theorem findNow_miss (n : Int) : ∀ (es : List MapEntry) (cs : List Int) (i : Nat), es.map (·.key) = cs.map intV → n ∉ cs → Instr.findNow (.int .i64) (intV n) es i = some none
  | [], _, i, _, _ => rfl
  | e :: es, [], i, h, _ => by simp at h
  | e :: es, d :: cs, i, h, hc => by
    simp only [List.map_cons, List.cons.injEq] at h
    obtain ⟨h1, h2⟩ := h
    have he : (n == d) = false := by
      have : ¬ n = d := fun e => hc (by simp [e])
      simpa using this
    simp only [Instr.findNow, h1, Instr.sameNow, if_true, he]
    exact findNow_miss n es cs (i + 1) h2 (fun h => hc (List.mem_cons_of_mem _ h))
theorem keyInt : KeyT Try.prog 3 intV where
  check b c w := by kernel_rfl
  bits c := by simp [Instr.sameBits]
  hit w c es cs h hc := by
    obtain ⟨j, hj, h1, h2⟩ := findNow_hit c es cs 0 h hc
    exact ⟨j, hj, h1, by simp [Instr.findKey, run_underlying Try.underlying3, h2]⟩
  miss w c es cs h hc := by
    have h2 := findNow_miss c es cs 0 h hc
    simp [Instr.findKey, run_underlying Try.underlying3, h2]
end Go.Proofs.Ytaicecnfodhlcaa
/- The contracts of agg's and the document's sums. -/
set_option linter.unusedVariables false
set_option linter.unusedSimpArgs false
namespace Go.Proofs.Ytaicecnfodhlcaa
open Go.RowKit

/-- Does a sum fit? -/
def fits (a b : Int) : Bool := decide (-9223372036854775808 ≤ a + b ∧ a + b ≤ 9223372036854775807)
def is64 (a : Int) : Prop := -9223372036854775808 ≤ a ∧ a ≤ 9223372036854775807

set_option maxHeartbeats 1000000 in
theorem aggAdd_ok (a b : Int) (w : World) (ha : is64 a) (hb : is64 b) (hf : fits a b = true) : Calls Try.prog 78 #[.int .i64 a, .int .i64 b] w fun e w' => e = .returned (.tuple #[.int .i64 (a + b), .nilIface]) ∧ w' = w := by
  obtain ⟨a1, a2⟩ := ha
  obtain ⟨b1, b2⟩ := hb
  simp only [fits, decide_eq_true_eq] at hf
  by_cases h0 : 0 < b
  · have h1 : a < a + b := by omega
    go_enter Try.func78, Try.ntmps78
    go_wp2_with fail
    go_ret2
    exact ⟨rfl, rfl⟩
  · have h1 : ¬ a < a + b := by omega
    go_enter Try.func78, Try.ntmps78
    go_wp2_with fail
    go_ret2
    exact ⟨rfl, rfl⟩

/-- An *agg.Overflow lies in block g. -/
def IsOver (w : World) (g : Nat) (a b : Int) : Prop := w.heap[g]? = some (.cells #[.int .u8 43, .int .i64 a, .int .i64 b] 163 (0, 0))

set_option maxHeartbeats 1000000 in
theorem aggAdd_bad (a b : Int) (w : World) (ha : is64 a) (hb : is64 b) (hf : ¬ fits a b = true) : Calls Try.prog 78 #[.int .i64 a, .int .i64 b] w fun e w' => e = .returned (.tuple #[.int .i64 0, .iface 161 (.pointer (some ⟨w.heap.size, 0, none⟩))]) ∧ IsOver w' w.heap.size a b ∧ Below w.heap.size w w' := by
  obtain ⟨a1, a2⟩ := ha
  obtain ⟨b1, b2⟩ := hb
  simp only [fits, decide_eq_true_eq] at hf
  have hb0 : Below w.heap.size w (w.alloc (.cells #[.int .u8 43, .int .i64 a, .int .i64 b] 163)) := (Below.refl _ _).alloc (Nat.le_refl _) _
  by_cases h0 : 0 < b
  · have hs : wrap64 (a + b) = a + b - 18446744073709551616 := by unfold wrap64; omega
    have h1 : ¬ a < a + b - 18446744073709551616 := by omega
    go_enter Try.func78, Try.ntmps78
    go_wp2_with fail
    go_ret2
    exact ⟨rfl, blk_at rfl, hb0⟩
  · have hs : wrap64 (a + b) = a + b + 18446744073709551616 := by unfold wrap64; omega
    have h1 : a < a + b + 18446744073709551616 := by omega
    go_enter Try.func78, Try.ntmps78
    go_wp2_with fail
    go_ret2
    exact ⟨rfl, blk_at rfl, hb0⟩
end Go.Proofs.Ytaicecnfodhlcaa
/- The contracts of agg's Merge and Put, and of Reckon. -/
set_option linter.unusedVariables false
set_option linter.unusedSimpArgs false
namespace Go.Proofs.Ytaicecnfodhlcaa
open Go.RowKit Go.Deep

theorem results_cell_tmp {P : Program} {fn : Func} {p q : Tmp} {ty : TypeId} (h : fn.results = #[.cell p ty, .tmp q]) (tmps : Array Value) (w : World) (g : Nat) (t : TypeId) (cs : Array Value) (fr : Nat × Nat) (d : TypeDesc)
    (hp : tmps.getD p undef = .pointer (some ⟨g, 0, none⟩)) (hg : w.heap[g]? = some (.cells cs t fr))
    (hu : P.underlying ty = some d) (hd : (match d with | .struct _ | .array _ _ => true | _ => false) = true) (hi : (P.info? ty).map (·.size) = some cs.size) :
    (results fn tmps).run P w = .ok (.tuple #[.agg cs, tmps.getD q undef]) w := by
  have hp' : tmps[p]?.getD undef = .pointer (some ⟨g, 0, none⟩) := by simpa using hp
  simp [results, h, hp', asAddr, run_loadVar_row w g t ty cs fr d hg hu hd hi]
theorem results_cell_cell {P : Program} {fn : Func} {p q : Tmp} {ty ty2 : TypeId} (h : fn.results = #[.cell p ty, .cell q ty2]) (tmps : Array Value) (w : World) (g : Nat) (t : TypeId) (cs : Array Value) (fr : Nat × Nat) (d : TypeDesc)
    (hp : tmps.getD p undef = .pointer (some ⟨g, 0, none⟩)) (hg : w.heap[g]? = some (.cells cs t fr))
    (hu : P.underlying ty = some d) (hd : (match d with | .struct _ | .array _ _ => true | _ => false) = true) (hi : (P.info? ty).map (·.size) = some cs.size)
    (g2 : Nat) (t2 : TypeId) (cs2 : Array Value) (fr2 : Nat × Nat) (d2 : TypeDesc)
    (hp2 : tmps.getD q undef = .pointer (some ⟨g2, 0, none⟩)) (hg2 : w.heap[g2]? = some (.cells cs2 t2 fr2))
    (hu2 : P.underlying ty2 = some d2) (hd2 : (match d2 with | .struct _ | .array _ _ => true | _ => false) = true) (hi2 : (P.info? ty2).map (·.size) = some cs2.size) :
    (results fn tmps).run P w = .ok (.tuple #[.agg cs, .agg cs2]) w := by
  have hp' : tmps[p]?.getD undef = .pointer (some ⟨g, 0, none⟩) := by simpa using hp
  have hq' : tmps[q]?.getD undef = .pointer (some ⟨g2, 0, none⟩) := by simpa using hp2
  simp [results, h, hp', hq', asAddr, run_loadVar_row w g t ty cs fr d hg hu hd hi, run_loadVar_row w g2 t2 ty2 cs2 fr2 d2 hg2 hu2 hd2 hi2]

abbrev aggV (c s mn mx : Int) : Value := .agg #[.int .i64 c, .int .i64 s, .int .i64 mn, .int .i64 mx]

set_option maxHeartbeats 2000000 in
theorem merge_zero (s mn mx v : Int) (w : World) :
    Calls Try.prog 59 #[aggV 0 s mn mx, aggV 1 v v v] w fun e w' => e = .returned (.tuple #[aggV 1 v v v, .nilIface]) ∧ Below w.heap.size w w' := by
  go_enter Try.func59, Try.ntmps59
  go_wp2_with fail
  refine bodyPost_ret (results_cell_tmp rfl _ _ (w.heap.size + 2) 51 #[.int .i64 1, .int .i64 v, .int .i64 v, .int .i64 v] (0, 0) _ rfl ?_ Try.underlying51 rfl (by kernel_rfl)) rfl ?_
  · exact blk_at (by simp)
  · exact ⟨rfl, by (repeat' (first | exact Below.refl _ _ | refine Below.drew ?_ | refine Below.setCell ?_ ?_ _ | refine Below.alloc ?_ ?_ _ | (simp; done) | (simp; omega) | omega))⟩

theorem set_blk {w : World} {g : Nat} {cs : Array Value} {t : TypeId} {fr : Nat × Nat} (h : w.heap[g]? = some (.cells cs t fr)) (k : Nat) (v : Value) : (w.setCell ⟨g, k, none⟩ v).heap[g]? = some (.cells (cs.setIfInBounds k v) t fr) := by
  unfold World.setCell
  simp [Array.getElem?_modify, h]
theorem cell_blk {w : World} {g : Nat} {cs : Array Value} {t : TypeId} {fr : Nat × Nat} (h : w.heap[g]? = some (.cells cs t fr)) (k : Nat) : w.cell? ⟨g, k, none⟩ = cs[k]? := by
  simp [World.cell?, h]
theorem frozen_blk {w : World} {g : Nat} {cs : Array Value} {t : TypeId} (h : w.heap[g]? = some (.cells cs t (0, 0))) (k : Nat) : w.frozen? ⟨g, k, none⟩ = false := by
  simp [World.frozen?, h]

set_option maxHeartbeats 2000000 in
theorem merge_bad1 (c s mn mx v : Int) (w : World) (hc : ¬ c = 0) (h1 : is64 c) (hf : ¬ fits c 1 = true) :
    Calls Try.prog 59 #[aggV c s mn mx, aggV 1 v v v] w fun e w' => ∃ g, e = .returned (.tuple #[aggV 0 0 0 0, .iface 161 (.pointer (some ⟨g, 0, none⟩))]) ∧ IsOver w' g c 1 ∧ Below w.heap.size w w' := by
  have hadd := fun W => aggAdd_bad c 1 W h1 (by unfold is64; omega) hf
  have hc2 : (c == 0) = false := by simpa using hc
  clear hc
  go_enter Try.func59, Try.ntmps59
  go_wp2_with fail
  refine (hadd _).mono ?_
  rintro e w1 ⟨rfl, ho, hb⟩
  simp only [World.size_alloc] at ho hb ⊢
  have hres : w1.heap[w.heap.size + 1 + 1]? = some (.cells #[.int .i64 0, .int .i64 0, .int .i64 0, .int .i64 0] 51 (0, 0)) := (hb.block _ (by omega)).trans (blk_at (by simp))
  have hz1 := hb.size
  simp only [World.size_alloc] at hz1
  have r0 := cell_blk hres 0
  have r1 := cell_blk hres 1
  have r2 := cell_blk hres 2
  have r3 := cell_blk hres 3
  simp at r0 r1 r2 r3
  have rf := frozen_blk hres
  have hbw : Below w.heap.size w w1 := by
    refine Below.trans ?_ (hb.mono (by omega))
    (repeat' (first | exact Below.refl _ _ | assumption | refine Below.drew ?_ | refine Below.setCell ?_ ?_ _ | refine Below.alloc ?_ ?_ _ | (simp; done) | (simp; omega) | omega))
  have HRES := Lib.hid hres
  have HO := Lib.hid ho
  have HBW := Lib.hid hbw
  clear hres ho hb hbw
  go_wp2_with fail
  refine bodyPost_ret (results_cell_tmp rfl _ _ (w.heap.size + 1 + 1) 51 #[.int .i64 0, .int .i64 0, .int .i64 0, .int .i64 0] (0, 0) _ rfl ?_ Try.underlying51 rfl (by kernel_rfl)) rfl ?_
  · exact set_blk (set_blk (set_blk (set_blk HRES.out 0 _) 1 _) 2 _) 3 _
  · refine ⟨_, rfl, ?_, ?_⟩
    · unfold IsOver
      rw [blk_setCell_other, blk_setCell_other, blk_setCell_other, blk_setCell_other]
      · exact HO.out
      all_goals (simp)
    · have hbw := HBW.out
      (repeat' (first | exact Below.refl _ _ | assumption | refine Below.drew ?_ | refine Below.setCell ?_ ?_ _ | refine Below.alloc ?_ ?_ _ | (simp; done) | (simp; omega) | omega))

set_option maxHeartbeats 2000000 in
theorem merge_bad2 (c s mn mx v : Int) (w : World) (hc : ¬ c = 0) (h1 : is64 c) (h2 : is64 s) (h3 : is64 v) (hf : fits c 1 = true) (hf2 : ¬ fits s v = true) :
    Calls Try.prog 59 #[aggV c s mn mx, aggV 1 v v v] w fun e w' => ∃ g, e = .returned (.tuple #[aggV 0 0 0 0, .iface 161 (.pointer (some ⟨g, 0, none⟩))]) ∧ IsOver w' g s v ∧ Below w.heap.size w w' := by
  have hadd := fun W => aggAdd_ok c 1 W h1 (by unfold is64; omega) hf
  have hadd2 := fun W => aggAdd_bad s v W h2 h3 hf2
  have hc2 : (c == 0) = false := by simpa using hc
  clear hc
  go_enter Try.func59, Try.ntmps59
  go_wp2_with fail
  refine (hadd _).mono ?_
  rintro e w0 ⟨rfl, rfl⟩
  go_wp2_with fail
  refine (hadd2 _).mono ?_
  rintro e w1 ⟨rfl, ho, hb⟩
  simp only [World.size_alloc] at ho hb ⊢
  have hres : w1.heap[w.heap.size + 1 + 1]? = some (.cells #[.int .i64 0, .int .i64 0, .int .i64 0, .int .i64 0] 51 (0, 0)) := (hb.block _ (by omega)).trans (blk_at (by simp))
  have hz1 := hb.size
  simp only [World.size_alloc] at hz1
  have r0 := cell_blk hres 0
  have r1 := cell_blk hres 1
  have r2 := cell_blk hres 2
  have r3 := cell_blk hres 3
  simp at r0 r1 r2 r3
  have rf := frozen_blk hres
  have hbw : Below w.heap.size w w1 := by
    refine Below.trans ?_ (hb.mono (by omega))
    (repeat' (first | exact Below.refl _ _ | assumption | refine Below.drew ?_ | refine Below.setCell ?_ ?_ _ | refine Below.alloc ?_ ?_ _ | (simp; done) | (simp; omega) | omega))
  have HRES := Lib.hid hres
  have HO := Lib.hid ho
  have HBW := Lib.hid hbw
  clear hres ho hb hbw
  go_wp2_with fail
  refine bodyPost_ret (results_cell_tmp rfl _ _ (w.heap.size + 1 + 1) 51 #[.int .i64 0, .int .i64 0, .int .i64 0, .int .i64 0] (0, 0) _ rfl ?_ Try.underlying51 rfl (by kernel_rfl)) rfl ?_
  · exact set_blk (set_blk (set_blk (set_blk HRES.out 0 _) 1 _) 2 _) 3 _
  · refine ⟨_, rfl, ?_, ?_⟩
    · unfold IsOver
      rw [blk_setCell_other, blk_setCell_other, blk_setCell_other, blk_setCell_other]
      · exact HO.out
      all_goals (simp)
    · have hbw := HBW.out
      (repeat' (first | exact Below.refl _ _ | assumption | refine Below.drew ?_ | refine Below.setCell ?_ ?_ _ | refine Below.alloc ?_ ?_ _ | (simp; done) | (simp; omega) | omega))

set_option maxHeartbeats 2000000 in
theorem merge_ok (c s mn mx v : Int) (w : World) (hc : ¬ c = 0) (h1 : is64 c) (h2 : is64 s) (h3 : is64 v) (hf : fits c 1 = true) (hf2 : fits s v = true) :
    Calls Try.prog 59 #[aggV c s mn mx, aggV 1 v v v] w fun e w' => e = .returned (.tuple #[aggV (c + 1) (s + v) (min mn v) (max mx v), .nilIface]) ∧ Below w.heap.size w w' := by
  have hadd := fun W => aggAdd_ok c 1 W h1 (by unfold is64; omega) hf
  have hadd2 := fun W => aggAdd_ok s v W h2 h3 hf2
  have hc2 : (c == 0) = false := by simpa using hc
  clear hc
  go_enter Try.func59, Try.ntmps59
  go_wp2_with fail
  refine (hadd _).mono ?_
  rintro e w1 ⟨rfl, rfl⟩
  go_wp2_with fail
  refine (hadd2 _).mono ?_
  rintro e w1 ⟨rfl, rfl⟩
  go_wp2_with fail
  all_goals refine bodyPost_ret (results_cell_tmp rfl _ _ (w.heap.size + 1 + 1) 51 #[.int .i64 (c + 1), .int .i64 (s + v), .int .i64 (min mn v), .int .i64 (max mx v)] (0, 0) _ rfl ?_ Try.underlying51 rfl (by kernel_rfl)) rfl ?_
  all_goals first
    | exact ⟨rfl, by (repeat' (first | exact Below.refl _ _ | refine Below.drew ?_ | refine Below.setCell ?_ ?_ _ | refine Below.alloc ?_ ?_ _ | (simp; done) | (simp; omega) | omega))⟩
    | (refine (blk_at (by simp)).trans ?_; simp <;> omega)
end Go.Proofs.Ytaicecnfodhlcaa
/- Moves through a region that draws its order: an operation is taken first into a named slot; a stronger condition in the middle. -/
set_option linter.unusedVariables false
set_option linter.unusedSimpArgs false
namespace Go.Proofs.Ytaicecnfodhlcaa
open Go.RowKit

/-- In the middle of a region: a stronger condition. -/
theorem wpAnyH_strong {P : Program} {md : Region.Mode} {ops : Array Oper} {Q : Exit → Act → World → Prop} {S S' : World → Prop} (hS : ∀ w, S' w → S w) : ∀ (fuel : Nat) (listed : Array Bool) (a : Act) (w : World), wpAnyH P md ops Q S' fuel listed a w → wpAnyH P md ops Q S fuel listed a w
  | 0, _, _, _, h => h
  | fuel + 1, _, _, _, h => ⟨h.1, fun i hi => wpOp_mono (fun a' w' h' => ⟨hS _ h'.1, wpAnyH_strong hS fuel _ a' w' h'.2⟩) (h.2 i hi)⟩
/-- An operation is taken first; its slot is named. -/
theorem wpAnyH_takeD {P : Program} {md : Region.Mode} {ops : Array Oper} {Q : Exit → Act → World → Prop} {S : World → Prop} {i d : Nat} {oi : Oper} {v : Value} {fuel : Nat} {listed : Array Bool} {a : Act} {w : World} (hi : ops[i]? = some oi) (hd : oi.dst = some d)
    (hs : Region.noSelect ops = true) (hf : Region.free md ops listed i = true) (hr : (Region.ready md ops listed).contains i = true)
    (hQ : ∀ c a w, Q (.panic c) (a.put (some d) v) w → Q (.panic c) a w) (hy : YieldsIf P ops S oi v a) (hS : S w)
    (h : wpAnyH P md ops Q S fuel (listed.setIfInBounds i true) (a.put (some d) v) w) : wpAnyH P md ops Q S (fuel + 1) listed a w := by
  refine wpAnyH_take hi hs hf hr ?_ hy hS ?_
  · rw [hd]; exact hQ
  · rw [hd]; exact h
end Go.Proofs.Ytaicecnfodhlcaa
