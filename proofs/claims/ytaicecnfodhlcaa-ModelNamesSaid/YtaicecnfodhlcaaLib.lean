/- Contracts of Go's library at this program's types, out of the kit's shelf. -/
import Derived.Test.YtaicecnfodhlcaaShelf
import Derived.Test.YtaicecnfodhlcaaRise
set_option linter.unusedVariables false
set_option linter.unusedSimpArgs false
namespace Go.Proofs.Ytaicecnfodhlcaa
open Go.RowKit Go.Shelf

theorem st_cell : SlT Try.prog 44 46 3 32 := SlT.mk' (z := .agg #[.int .i64 0, .string ⟨#[]⟩, .int .i64 0]) Try.underlying44 (by decide) (by kernel_rfl) rfl
theorem sz_cell : SlZ Try.prog 44 46 3 32 (cellL default) := SlZ.mk' (z := .agg #[.int .i64 0, .string ⟨#[]⟩, .int .i64 0]) Try.underlying44 (by decide) (by kernel_rfl) rfl rfl
theorem sz_view : SlZ Try.prog 24 76 3 24 (viewL default) := SlZ.mk' (z := .agg #[.int .i64 0, .int .i64 0, .int .i64 0]) Try.underlying24 (by decide) (by kernel_rfl) rfl rfl
theorem st_view : SlT Try.prog 24 76 3 24 := SlT.mk' (z := .agg #[.int .i64 0, .int .i64 0, .int .i64 0]) Try.underlying24 (by decide) (by kernel_rfl) rfl

theorem cloneCells_any (b off cap : Nat) (xs : List Cell) (w : World) (hs : Sl 3 cellL w (some ⟨b, off, none⟩) xs) (hl : xs.length ≤ 1000000000) :
    Calls Try.prog 54 #[.slice (some ⟨b, off, none⟩) xs.length cap] w fun e w' => ∃ v, e = .returned v ∧ Own 46 3 cellL w.heap.size w' v xs ∧ Below w.heap.size w w' := by
  obtain ⟨ht, hp, i, z, hi, hz0, hsize, hbytes, hzs⟩ := st_cell
  have h := AnyE.slices_Clone Try.cloneCells i z 3 32 hi hz0 hsize hbytes hzs (by decide) (fun w => by kernel_rfl) b off xs.length cap (xs.flatMap cellL) w (flat_length (enc := cellL) (sz := 3) (fun _ => rfl) xs) (by unfold maxLen; omega) (by omega)
    (fun j u hu => by have := Sl.flat (sz := 3) (fun _ => rfl) hs j u hu; rw [add_none] at this; exact this) (fun u hu => by obtain ⟨y, _, hy⟩ := List.mem_flatMap.1 hu; exact cells1_cell y u hy)
  change Calls Try.prog 54 _ _ _ at h
  exact h.mono fun e w' ⟨v, he, ho, _, hb⟩ => ⟨v, he, ho, hb⟩
theorem cloneViews_any (b off cap : Nat) (xs : List View) (w : World) (hs : Sl 3 viewL w (some ⟨b, off, none⟩) xs) (hl : xs.length ≤ 1000000000) :
    Calls Try.prog 28 #[.slice (some ⟨b, off, none⟩) xs.length cap] w fun e w' => ∃ v, e = .returned v ∧ Own 76 3 viewL w.heap.size w' v xs ∧ Below w.heap.size w w' := by
  obtain ⟨ht, hp, i, z, hi, hz0, hsize, hbytes, hzs⟩ := st_view
  have h := AnyE.slices_Clone Try.cloneViews i z 3 24 hi hz0 hsize hbytes hzs (by decide) (fun w => by kernel_rfl) b off xs.length cap (xs.flatMap viewL) w (flat_length (enc := viewL) (sz := 3) (fun _ => rfl) xs) (by unfold maxLen; omega) (by omega)
    (fun j u hu => by have := Sl.flat (sz := 3) (fun _ => rfl) hs j u hu; rw [add_none] at this; exact this) (fun u hu => by obtain ⟨y, _, hy⟩ := List.mem_flatMap.1 hu; exact cells1_view y u hy)
  change Calls Try.prog 28 _ _ _ at h
  exact h.mono fun e w' ⟨v, he, ho, _, hb⟩ => ⟨v, he, ho, hb⟩

def icmp (a b : Int) : Int := if a < b then -1 else if b < a then 1 else 0
def bcmp (a b : ByteArray) : Int := Lib.compareBytes a.data.toList b.data.toList
def ccmp (a b : Cell) : Int := if icmp a.v b.v = 0 then if bcmp a.k b.k = 0 then icmp a.s b.s else bcmp a.k b.k else icmp a.v b.v

theorem strCompare_any (a b : ByteArray) (w : World) : Calls Try.prog 76 #[.string a, .string b] w fun e w' => e = .returned (.int .i64 (bcmp a b)) ∧ w' = w := by
  have h := Any.strings_Compare Try.strCompare a b w
  exact h

theorem cmpInt_any (a b : Int) (w : World) : Calls Try.prog 75 #[.int .i64 a, .int .i64 b] w fun e w' => e = .returned (.int .i64 (icmp a b)) ∧ w = w' := by
  have h1 : (a != a) = false := by simp
  have h2 : (b != b) = false := by simp
  unfold icmp
  rcases Int.lt_trichotomy a b with h | h | h
  · rw [if_pos h]
    go_enter Try.func75, Try.ntmps75
    go_wp2
    go_ret
    exact ⟨rfl, rfl⟩
  · subst h
    have h3 : ¬ a < a := by omega
    rw [if_neg h3, if_neg h3]
    go_enter Try.func75, Try.ntmps75
    go_wp2
    go_ret
    exact ⟨rfl, rfl⟩
  · have h3 : ¬ a < b := by omega
    rw [if_neg h3, if_pos h]
    go_enter Try.func75, Try.ntmps75
    go_wp2
    go_ret
    exact ⟨rfl, rfl⟩
theorem cmpInt64_any (a b : Int) (w : World) : Calls Try.prog 77 #[.int .i64 a, .int .i64 b] w fun e w' => e = .returned (.int .i64 (icmp a b)) ∧ w = w' := by
  have h1 : (a != a) = false := by simp
  have h2 : (b != b) = false := by simp
  unfold icmp
  rcases Int.lt_trichotomy a b with h | h | h
  · rw [if_pos h]
    go_enter Try.func77, Try.ntmps77
    go_wp2
    go_ret
    exact ⟨rfl, rfl⟩
  · subst h
    have h3 : ¬ a < a := by omega
    rw [if_neg h3, if_neg h3]
    go_enter Try.func77, Try.ntmps77
    go_wp2
    go_ret
    exact ⟨rfl, rfl⟩
  · have h3 : ¬ a < b := by omega
    rw [if_neg h3, if_pos h]
    go_enter Try.func77, Try.ntmps77
    go_wp2
    go_ret
    exact ⟨rfl, rfl⟩

def or3 (x y z : Int) : Int := if x = 0 then if y = 0 then z else y else x
theorem cmpOr_any (b : Nat) (x y z : Int) (w : World) (hx : w.cell? ⟨b, 0, none⟩ = some (.int .i64 x)) (hy : w.cell? ⟨b, 1, none⟩ = some (.int .i64 y)) (hz : w.cell? ⟨b, 2, none⟩ = some (.int .i64 z)) :
    Calls Try.prog 74 #[.slice (some ⟨b, 0, none⟩) 3 3] w fun e w' => e = .returned (.int .i64 (or3 x y z)) ∧ w = w' := by
  unfold or3
  by_cases h1 : x = 0
  · rw [if_pos h1]
    have g1 : (x != 0) = false := by simp [h1]
    by_cases h2 : y = 0
    · rw [if_pos h2]
      have g2 : (y != 0) = false := by simp [h2]
      by_cases h3 : z = 0
      · have g3 : (z != 0) = false := by simp [h3]
        clear h1 h2
        subst h3
        go_enter Try.func74, Try.ntmps74
        go_wp2
        refine wp_loop_rounds 4 ?_
        repeat any_goals (rw [rounds_succ]; go_wp2)
        go_ret
        exact ⟨rfl, rfl⟩
      · have g3 : (z != 0) = true := by simp [h3]
        clear h1 h2
        go_enter Try.func74, Try.ntmps74
        go_wp2
        refine wp_loop_rounds 4 ?_
        repeat any_goals (rw [rounds_succ]; go_wp2)
        go_ret
        exact ⟨rfl, rfl⟩
    · rw [if_neg h2]
      have g2 : (y != 0) = true := by simp [h2]
      clear h1 h2
      go_enter Try.func74, Try.ntmps74
      go_wp2
      refine wp_loop_rounds 4 ?_
      repeat any_goals (rw [rounds_succ]; go_wp2)
      go_ret
      exact ⟨rfl, rfl⟩
  · rw [if_neg h1]
    have g1 : (x != 0) = true := by simp [h1]
    clear h1
    go_enter Try.func74, Try.ntmps74
    go_wp2
    refine wp_loop_rounds 4 ?_
    repeat any_goals (rw [rounds_succ]; go_wp2)
    go_ret
    exact ⟨rfl, rfl⟩

set_option maxHeartbeats 1000000 in
theorem compare_any (a1 : Int) (a2 : ByteArray) (a3 : Int) (b1 : Int) (b2 : ByteArray) (b3 : Int) (w : World) :
    Calls Try.prog 56 #[.agg #[.int .i64 a1, .string a2, .int .i64 a3], .agg #[.int .i64 b1, .string b2, .int .i64 b3]] w fun e w' => e = .returned (.int .i64 (ccmp ⟨a1, a2, a3⟩ ⟨b1, b2, b3⟩)) ∧ ∃ q os', w' = Sort.grow (w.drewN q) os' := by
  rw [show ccmp ⟨a1, a2, a3⟩ ⟨b1, b2, b3⟩ = or3 (icmp a1 b1) (bcmp a2 b2) (icmp a3 b3) from rfl]
  have k1 := fun W => cmpInt_any a1 b1 W
  have k2 := fun W => strCompare_any a2 b2 W
  have k3 := fun W => cmpInt64_any a3 b3 W
  generalize icmp a1 b1 = x at *
  generalize bcmp a2 b2 = y at *
  generalize icmp a3 b3 = z at *
  go_enter Try.func56, Try.ntmps56
  go_wp2_with fail
  go_region_held3 (fun w' => w'.cell? ⟨w.heap.size, 0, none⟩ = some (.int .i64 a1) ∧ w'.cell? ⟨w.heap.size, 1, none⟩ = some (.string a2) ∧ w'.cell? ⟨w.heap.size, 2, none⟩ = some (.int .i64 a3) ∧ w'.cell? ⟨w.heap.size + 1, 0, none⟩ = some (.int .i64 b1) ∧ w'.cell? ⟨w.heap.size + 1, 1, none⟩ = some (.string b2) ∧ w'.cell? ⟨w.heap.size + 1, 2, none⟩ = some (.int .i64 b3)) (go_keep)
    (first | (go_at_call 75; refine (k1 _).mono ?_; rintro e w' ⟨rfl, rfl⟩) | (go_at_call 76; refine (k2 _).mono ?_; rintro e w' ⟨rfl, rfl⟩) | (go_at_call 77; refine (k3 _).mono ?_; rintro e w' ⟨rfl, rfl⟩) | (go_at_call 74; refine (cmpOr_any _ x y z _ ?_ ?_ ?_).mono ?_; (go_simp); (go_simp); (go_simp); rintro e w' ⟨rfl, rfl⟩))
  go_wp2
  go_ret
  exact ⟨rfl, 1, _, by rw [Sort.alloc_eq_grow, Sort.alloc_eq_grow, Sort.alloc_eq_grow, Sort.grow_grow, Sort.grow_grow]; rfl⟩
end Go.Proofs.Ytaicecnfodhlcaa
