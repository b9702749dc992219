/- A key's number; a key's operator. -/
import Derived.Test.YtaicecnfodhlcaaMap
import Derived.Laws.IdiomStrings
set_option linter.unusedVariables false
set_option linter.unusedSimpArgs false
namespace Go.Proofs.Ytaicecnfodhlcaa
open Go.RowKit

/-- One byte more. -/
def hstep (n c : Int) : Int := IntKind.u64.wrap (bits .xor .u64 n (IntKind.u64.wrap c) * 1099511628211)
/-- What an empty text has. -/
def hseed : Int := 14695981039346656037
/-- A text's number. -/
def hashK (k : ByteArray) : Int := k.data.toList.foldl (fun n b => hstep n (b.toNat : Int)) hseed

set_option maxHeartbeats 1000000 in
theorem hash_any (k : ByteArray) (w : World) (hk : k.size ≤ maxLen) : Calls Try.prog 50 #[.string k] w fun e w' => e = .returned (.int .u64 (hashK k)) ∧ Below w.heap.size w w' := by
  have hc := fun W => run_bytes_of_string (P := Try.prog) W 9 96 5 k Try.underlying9 Try.underlying96 Try.underlying5
  unfold maxLen at hk
  go_enter Try.func50, Try.ntmps50
  go_wp2_with fail
  have hcell : ∀ j (h : j < k.size), (w.alloc (.cells (bytesRow k (grownCap w k.size 0 5)) 5 ((bytesRow k (grownCap w k.size 0 5)).size, (bytesRow k (grownCap w k.size 0 5)).size + 1))).drew.cell? ⟨w.heap.size, j, none⟩ = some (.int .u8 (k.data[j].toNat : Int)) := by
    intro j h
    show (w.alloc _).cell? _ = _
    rw [World.cell?_alloc_mark, bytesRow_at k _ j h]
  have Hcell := Lib.hid hcell
  have hbw : Below w.heap.size w (w.alloc (.cells (bytesRow k (grownCap w k.size 0 5)) 5 ((bytesRow k (grownCap w k.size 0 5)).size, (bytesRow k (grownCap w k.size 0 5)).size + 1))).drew := ((Below.refl _ _).alloc (Nat.le_refl _) _).drew
  clear hcell
  generalize grownCap w k.size 0 5 = cp at *
  generalize (w.alloc (.cells (bytesRow k cp) 5 ((bytesRow k cp).size, (bytesRow k cp).size + 1))).drew = w1 at *
  have hend : (k.data.toList.take k.size).foldl (fun n b => hstep n (b.toNat : Int)) hseed = hashK k := by
    unfold hashK
    rw [List.take_of_length_le (Nat.le_of_eq (by rw [Array.length_toList]; rfl))]
  have Hend := Lib.hid hend
  clear hend
  go_loopg [3, 9] k.size (fun g h i wr => ∃ (j : Nat) (n : Int), j + g = k.size ∧ i = .int .i64 j ∧ h = .int .u64 n ∧ wr = w1 ∧ n = (k.data.toList.take j).foldl (fun n b => hstep n (b.toNat : Int)) hseed)
  case atStart => exact ⟨0, hseed, by omega, rfl, rfl, rfl, by simp⟩
  case round =>
    obtain ⟨j, n, hj, rfl, rfl, rfl, hn⟩ := hrel
    have Hj := Lib.hid hj
    have Hn := Lib.hid hn
    clear hj hn
    by_cases hlt : j < k.size
    · have hb := Hcell.out j hlt
      obtain ⟨c, hc⟩ : ∃ c : Int, c = (k.data[j].toNat : Int) := ⟨_, rfl⟩
      rw [← hc] at hb
      have hs : hstep n c = (k.data.toList.take (j + 1)).foldl (fun n b => hstep n (b.toNat : Int)) hseed := by
        rw [List.take_succ_eq_append_getElem (by rw [Array.length_toList]; exact hlt), List.foldl_append, ← Hn.out, hc]
        rfl
      have Hs := Lib.hid hs
      clear hs hc
      go_wp2_with fail
      go_roundg (k.size - (j + 1))
      case measure => have := Hj.out; omega
      case rel => exact ⟨j + 1, hstep n c, by have := Hj.out; omega, by go_num, rfl, rfl, Hs.out⟩
    · have hjk : j = k.size := by have := Hj.out; omega
      have hn := Hn.out
      rw [hjk, Hend.out] at hn
      have hjk2 := hjk
      clear hjk Hn
      subst hn
      go_wp2_with fail
      go_ret
      exact ⟨rfl, hbw⟩

/-- A key's operator, of so many. -/
def oprK (k : ByteArray) (n : Int) : Int := IntKind.i64.wrap ((IntKind.u64.wrap (hashK k * 11400714819323198485) / 4294967296).tmod n)
theorem oprK_bd (k : ByteArray) {n : Int} (h1 : 1 ≤ n) (h8 : n ≤ 8) : 0 ≤ oprK k n ∧ oprK k n < n := by
  unfold oprK
  generalize hashK k * 11400714819323198485 = z
  have hz : 0 ≤ IntKind.u64.wrap z := by
    have h := IntKind.wrap_u64 z
    rw [h]; exact Int.emod_nonneg _ (by decide)
  have hq : 0 ≤ IntKind.u64.wrap z / 4294967296 := Int.ediv_nonneg hz (by decide)
  generalize IntKind.u64.wrap z / 4294967296 = y at *
  rw [Int.tmod_eq_emod_of_nonneg hq]
  have a := Int.emod_nonneg y (show n ≠ 0 by omega)
  have b := Int.emod_lt_of_pos y (show 0 < n by omega)
  rw [IntWalk.i64_in _ ⟨by omega, by omega⟩]
  exact ⟨a, b⟩

set_option maxHeartbeats 1000000 in
theorem operator_any (mp : Nat) (k : ByteArray) (n : Int) (w : World) (hk : k.size ≤ maxLen) (hc : w.cell? ⟨mp, 2, none⟩ = some (.int .i64 n)) (h1 : 1 ≤ n) (h8 : n ≤ 8) :
    Calls Try.prog 20 #[.pointer (some ⟨mp, 0, none⟩), .string k] w fun e w' => e = .returned (.int .i64 (oprK k n)) ∧ Below w.heap.size w w' := by
  have hh := fun W => hash_any k W hk
  have hlt := World.block_lt_of_cell? _ _ hc
  have kp : ∀ W, Below w.heap.size w W → (Below w.heap.size w W ∧ W.cell? ⟨mp, 2, none⟩ = some (.int .i64 n)) := fun W hW => ⟨hW, (hW.cell hlt).trans hc⟩
  have hbd := (Below.refl w.heap.size w).drew
  have hwn : IntKind.u64.wrap n = n := by unfold IntKind.wrap; simp [IntKind.bits, IntKind.signed]; omega
  have hn0 : (n == 0) = false := by simp; omega
  have hn2 : ¬ n = 0 := by omega
  have hn3 : (0 == n) = false := by simp; omega
  have hn4 : ¬ 0 = n := by omega
  unfold oprK
  generalize hashK k = x at *
  go_enter Try.func20, Try.ntmps20
  go_wp2_with fail
  go_region_held3 (fun W => Below w.heap.size w W ∧ W.cell? ⟨mp, 2, none⟩ = some (.int .i64 n)) (first | exact kp _ hbd | assumption)
    (first | (go_at_call 50; refine (hh _).mono ?_; rintro e w1 ⟨rfl, hb1⟩; have hk1 := kp _ (hbd.trans hb1)))
  go_wp2_with fail
  go_ret
  exact ⟨rfl, hk1.1⟩
end Go.Proofs.Ytaicecnfodhlcaa
