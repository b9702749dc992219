/- The order of cells; slices.SortFunc at cells. -/
import Derived.Test.YtaicecnfodhlcaaLib
set_option linter.unusedVariables false
set_option linter.unusedSimpArgs false
namespace Go.Proofs.Ytaicecnfodhlcaa
open Go.RowKit Go.Shelf Go.Sort

/-- What a comparison must be to be a total order. -/
structure Tot {α : Type} (f : α → α → Int) : Prop where
  eq : ∀ a b, f a b = 0 → a = b
  self : ∀ a, f a a = 0
  anti : ∀ a b, f b a = - f a b
  trans : ∀ a b c, f a b < 0 → f b c < 0 → f a c < 0

theorem tot_int : Tot icmp where
  eq a b h := by unfold icmp at h; (repeat' split at h) <;> omega
  self a := by unfold icmp; simp
  anti a b := by unfold icmp; by_cases h1 : a < b <;> by_cases h2 : b < a <;> simp [h1, h2] <;> omega
  trans a b c h1 h2 := by
    have k1 : a < b := by
      unfold icmp at h1; split at h1
      · assumption
      · split at h1 <;> omega
    have k2 : b < c := by
      unfold icmp at h2; split at h2
      · assumption
      · split at h2 <;> omega
    unfold icmp; rw [if_pos (by omega)]; omega

theorem cb_self : ∀ l : List UInt8, Lib.compareBytes l l = 0
  | [] => rfl
  | a :: r => by simp [Lib.compareBytes, cb_self r]
theorem cb_eq : ∀ l m : List UInt8, Lib.compareBytes l m = 0 → l = m
  | [], [], _ => rfl
  | [], _ :: _, h => by simp [Lib.compareBytes] at h
  | _ :: _, [], h => by simp [Lib.compareBytes] at h
  | a :: r, b :: s, h => by
    simp only [Lib.compareBytes] at h
    split at h
    · omega
    · split at h
      · omega
      · rename_i h1 h2
        have e : a = b := by
          have e1 : a.toNat = b.toNat := by
            rw [UInt8.lt_iff_toNat_lt] at h1 h2; omega
          exact UInt8.toNat_inj.1 e1
        rw [e, cb_eq r s h]
theorem cb_anti : ∀ l m : List UInt8, Lib.compareBytes m l = - Lib.compareBytes l m
  | [], [] => rfl
  | [], _ :: _ => rfl
  | _ :: _, [] => rfl
  | a :: r, b :: s => by
    simp only [Lib.compareBytes]
    have ih := cb_anti r s
    by_cases h1 : a < b <;> by_cases h2 : b < a
    · exfalso; rw [UInt8.lt_iff_toNat_lt] at h1 h2; omega
    · simp [h1, h2]
    · simp [h1, h2]
    · simp [h1, h2, ih]
theorem cb_trans : ∀ l m n : List UInt8, Lib.compareBytes l m < 0 → Lib.compareBytes m n < 0 → Lib.compareBytes l n < 0
  | [], [], n, h, _ => by simp [Lib.compareBytes] at h
  | [], _ :: _, [], _, h => by simp [Lib.compareBytes] at h
  | [], _ :: _, _ :: _, _, _ => by simp [Lib.compareBytes]
  | _ :: _, [], n, h, _ => by simp [Lib.compareBytes] at h
  | _ :: _, _ :: _, [], _, h => by simp [Lib.compareBytes] at h
  | a :: r, b :: s, c :: t, h, k => by
    simp only [Lib.compareBytes] at *
    split at h
    · rename_i h1
      split at k
      · rename_i k1
        rw [if_pos (by rw [UInt8.lt_iff_toNat_lt] at *; omega)]; omega
      · split at k
        · omega
        · rename_i k1 k2
          rw [if_pos (by rw [UInt8.lt_iff_toNat_lt] at *; omega)]; omega
    · rename_i h1
      split at h
      · omega
      · rename_i h2
        split at k
        · rename_i k1
          rw [if_pos (by rw [UInt8.lt_iff_toNat_lt] at *; omega)]; omega
        · rename_i k1
          split at k
          · omega
          · rename_i k2
            rw [if_neg (by rw [UInt8.lt_iff_toNat_lt] at *; omega), if_neg (by rw [UInt8.lt_iff_toNat_lt] at *; omega)]
            exact cb_trans r s t h k
theorem tot_bytes : Tot bcmp where
  eq a b h := by
    have := cb_eq _ _ h
    cases a; cases b; simp at this; rw [this]
  self a := cb_self _
  anti a b := cb_anti _ _
  trans a b c h k := cb_trans _ _ _ h k

/-- One order ahead of another. -/
def lex {α : Type} (f g : α → α → Int) (a b : α) : Int := if f a b = 0 then g a b else f a b
theorem ccmp_lex : ccmp = fun a b => lex (fun a b : Cell => icmp a.v b.v) (lex (fun a b : Cell => bcmp a.k b.k) (fun a b : Cell => icmp a.s b.s)) a b := rfl

theorem tot_cell : Tot ccmp where
  eq a b h := by
    unfold ccmp at h
    split at h
    · rename_i h1
      split at h
      · rename_i h2
        cases a; cases b
        have e1 := tot_int.eq _ _ h1
        have e2 := tot_bytes.eq _ _ h2
        have e3 := tot_int.eq _ _ h
        simp_all
      · contradiction
    · contradiction
  self a := by unfold ccmp; simp [tot_int.self, tot_bytes.self]
  anti a b := by
    unfold ccmp
    rw [tot_int.anti a.v b.v, tot_bytes.anti a.k b.k, tot_int.anti a.s b.s]
    by_cases h1 : icmp a.v b.v = 0
    · rw [if_pos h1, if_pos (by omega)]
      by_cases h2 : bcmp a.k b.k = 0
      · rw [if_pos h2, if_pos (by omega)]
      · rw [if_neg h2, if_neg (by omega)]
    · rw [if_neg h1, if_neg (by omega)]
  trans a b c h k := by
    unfold ccmp at *
    by_cases h1 : icmp a.v b.v = 0
    · have e1 := tot_int.eq _ _ h1
      rw [if_pos h1] at h
      by_cases k1 : icmp b.v c.v = 0
      · rw [if_pos k1] at k
        rw [e1, if_pos k1]
        by_cases h2 : bcmp a.k b.k = 0
        · have e2 := tot_bytes.eq _ _ h2
          rw [if_pos h2] at h
          by_cases k2 : bcmp b.k c.k = 0
          · rw [if_pos k2] at k
            rw [e2, if_pos k2]
            exact tot_int.trans _ _ _ h k
          · rw [if_neg k2] at k
            rw [e2, if_neg k2]; exact k
        · rw [if_neg h2] at h
          by_cases k2 : bcmp b.k c.k = 0
          · rw [← tot_bytes.eq _ _ k2, if_neg h2]; exact h
          · rw [if_neg k2] at k
            have := tot_bytes.trans _ _ _ h k
            rw [if_neg (by omega)]; exact this
      · rw [if_neg k1] at k
        rw [e1, if_neg k1]; exact k
    · rw [if_neg h1] at h
      by_cases k1 : icmp b.v c.v = 0
      · rw [← tot_int.eq _ _ k1, if_neg h1]; exact h
      · rw [if_neg k1] at k
        have := tot_int.trans _ _ _ h k
        rw [if_neg (by omega)]; exact this

theorem swo_cell : SWO (ltOf ccmp) where
  irrefl x := by simp [ltOf, tot_cell.self]
  trans x y z h1 h2 := by simp [ltOf] at *; exact tot_cell.trans _ _ _ h1 h2
  ntrans x y z h1 h2 := by
    simp [ltOf] at *
    rcases Int.lt_trichotomy (ccmp x z) 0 with h | h | h
    · exfalso
      by_cases e1 : ccmp x y = 0
      · have := tot_cell.eq _ _ e1; subst this; omega
      · by_cases e2 : ccmp y z = 0
        · have := tot_cell.eq _ _ e2; subst this; omega
        · have a1 := tot_cell.anti x y
          have a2 := tot_cell.anti y z
          have a3 := tot_cell.trans z y x (by omega) (by omega)
          have a4 := tot_cell.anti x z
          omega
    · omega
    · omega

/-- The cells of a list, in order. -/
def sortC (xs : List Cell) : List Cell := xs.mergeSort fun x y => !(ltOf ccmp) y x
/-- Do cells rise, each once? -/
def Rise (xs : List Cell) : Prop := xs.Pairwise fun x y => ccmp x y < 0

theorem sortC_perm (xs : List Cell) : (sortC xs).Perm xs := List.mergeSort_perm _ _
theorem sortC_length (xs : List Cell) : (sortC xs).length = xs.length := (sortC_perm xs).length_eq
theorem sortC_le (xs : List Cell) : (sortC xs).Pairwise fun x y => ¬ ccmp y x < 0 := by
  have h := List.pairwise_mergeSort (le := fun x y : Cell => !(ltOf ccmp) y x) (fun a b c h1 h2 => by
    have := swo_cell.ntrans c b a (by simpa using h2) (by simpa using h1)
    simpa using this) (fun a b => by
    simp [ltOf]
    have := tot_cell.anti a b
    omega) xs
  exact h.imp fun h => by simpa [ltOf] using h
theorem sortC_rise {xs : List Cell} (h : xs.Nodup) : Rise (sortC xs) := by
  have h1 := sortC_le xs
  have h2 : (sortC xs).Nodup := (sortC_perm xs).nodup_iff.2 h
  exact (h1.and h2).imp (fun {x y} (hh : ¬ ccmp y x < 0 ∧ x ≠ y) => by
    have e := tot_cell.anti x y
    rcases Int.lt_trichotomy (ccmp x y) 0 with g | g | g
    · exact g
    · exact absurd (tot_cell.eq _ _ g) hh.2
    · have := hh.1; omega)
theorem Rise.nodup {xs : List Cell} (h : Rise xs) : xs.Nodup := List.Pairwise.imp (fun {a b} h e => by subst e; rw [tot_cell.self] at h; omega) h
theorem Rise.perm_eq {xs ys : List Cell} (hx : Rise xs) (hy : Rise ys) (h : xs.Perm ys) : xs = ys :=
  List.Perm.eq_of_pairwise (le := fun x y => ccmp x y < 0) (fun a b _ _ h1 h2 => by have := tot_cell.anti a b; omega) hx hy h
theorem sortC_eq {xs ys : List Cell} (hx : Rise xs) (h : xs.Perm ys) : sortC ys = xs :=
  Rise.perm_eq (sortC_rise (h.nodup_iff.1 hx.nodup)) hx ((sortC_perm ys).trans h.symm)

theorem flatK_eq {α : Type} [Inhabited α] {enc : α → List Value} {k : Nat} (hk : ∀ x, (enc x).length = k) (xs : List α) : (flatK enc k xs.toArray).toList = xs.flatMap enc := by
  apply List.ext_getElem?
  intro j
  by_cases hj : j < xs.length * k
  · have hk0 : 0 < k := by rcases Nat.eq_zero_or_pos k with rfl | h; simp at hj; exact h
    have hi : j / k < xs.length := Nat.div_lt_of_lt_mul (by rw [Nat.mul_comm]; exact hj)
    have e1 := flat_get hk xs (j / k) hi (j % k) (Nat.mod_lt _ hk0)
    rw [Nat.div_add_mod' j k] at e1
    rw [e1]
    have e2 := get_flatK enc k xs.toArray j (by simpa using hj)
    have hs : j < (flatK enc k xs.toArray).size := by simpa using hj
    rw [getElem!_pos (flatK enc k xs.toArray) j hs, getElem!_pos xs.toArray (j / k) (by simpa using hi)] at e2
    have hm : j % k < (enc xs[j / k]).length := by rw [hk]; exact Nat.mod_lt _ hk0
    simp only [List.getElem_toArray] at e2
    rw [getElem!_pos (enc xs[j / k]) (j % k) hm] at e2
    rw [List.getElem?_eq_getElem hm, Array.getElem?_toList, Array.getElem?_eq_getElem hs, e2]
  · rw [List.getElem?_eq_none (by simp; omega), List.getElem?_eq_none (by rw [flat_length hk]; omega)]
end Go.Proofs.Ytaicecnfodhlcaa
