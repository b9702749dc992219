/- OperMany: many cells in another order than theirs (plain). -/
import Derived.Test.YtheimbhnckaonaaOpenP
set_option linter.unusedVariables false
set_option linter.unusedSimpArgs false
namespace Go.Proofs.Ytheimbhnckaonaa
open Go.RowKit

/-- 'within'. -/
def wi (a n : Int) : Int := if a.tmod n < 0 then a.tmod n + n else a.tmod n
theorem wi_bd (a n : Int) (hn : 0 < n) : 0 ≤ wi a n ∧ wi a n < n := by
  have h1 : a.tmod n < n := Int.tmod_lt_of_pos a hn
  have h2 : -n < a.tmod n := by
    have := Int.lt_tmod_of_pos a hn
    omega
  unfold wi
  split <;> omega

/-- The k-th cell. -/
def mC (ks k : Nat) : Cell := ⟨((k % 2 : Nat) : Int), ⟨#[UInt8.ofNat (97 + k / 2 % ks)]⟩, ((k / 2 / ks * 10 : Nat) : Int)⟩
theorem mC_inj {ks k l : Nat} (h0 : 0 < ks) (h1 : ks ≤ 20) (h : mC ks k = mC ks l) : k = l := by
  unfold mC at h
  injection h with a b c
  have a' : k % 2 = l % 2 := by omega
  have c' : k / 2 / ks = l / 2 / ks := by omega
  have b1 := congrArg (fun x : ByteArray => x.data[0]!) b
  simp only [List.getElem!_toArray, List.getElem!_cons_zero] at b1
  have b2 := congrArg UInt8.toNat b1
  have m1 := Nat.mod_lt (k / 2) h0
  have m2 := Nat.mod_lt (l / 2) h0
  simp only [UInt8.toNat_ofNat'] at b2
  have e1 : (97 + k / 2 % ks) % 2 ^ 8 = 97 + k / 2 % ks := Nat.mod_eq_of_lt (by omega)
  have e2 : (97 + l / 2 % ks) % 2 ^ 8 = 97 + l / 2 % ks := Nat.mod_eq_of_lt (by omega)
  rw [e1, e2] at b2
  have b' : k / 2 % ks = l / 2 % ks := by omega
  have d1 := Nat.div_add_mod (k / 2) ks
  have d2 := Nat.div_add_mod (l / 2) ks
  rw [c', b'] at d1
  have : k / 2 = l / 2 := by rw [← d1, d2]
  omega

/-- The order in which they are written. -/
def mP (n t i : Nat) : Nat := (i * 7919 + t) % n
theorem cop : ∀ n, n < 1500 → n ≠ 0 → Nat.gcd n 7919 = 1 := by
  have h : ((List.range 1500).all fun n => n == 0 || Nat.gcd n 7919 == 1) = true := by decide +kernel
  intro n hn h0
  have := List.all_eq_true.1 h n (List.mem_range.2 hn)
  simpa [h0] using this
theorem mP_lt {n t i : Nat} (hn : 0 < n) : mP n t i < n := Nat.mod_lt _ hn
theorem mP_inj {n t i j : Nat} (hn : n < 1500) (hi : i < n) (hj : j < n) (h : mP n t i = mP n t j) : i = j := by
  have key : ∀ a b, a ≤ b → b < n → mP n t a = mP n t b → a = b := by
    intro a b hab hb h
    unfold mP at h
    have h1 : (b * 7919 + t) % n = (a * 7919 + t) % n := h.symm
    have h2 : n ∣ (b * 7919 + t) - (a * 7919 + t) := Nat.dvd_of_mod_eq_zero (Nat.sub_mod_eq_zero_of_mod_eq h1)
    have h3 : (b * 7919 + t) - (a * 7919 + t) = (b - a) * 7919 := by omega
    rw [h3] at h2
    have h4 : n ∣ b - a := Nat.Coprime.dvd_of_dvd_mul_right (cop n hn (by omega)) h2
    rcases Nat.eq_zero_or_pos (b - a) with h5 | h5
    · omega
    · have := Nat.le_of_dvd h5 h4
      omega
  rcases Nat.le_total i j with h1 | h1
  · exact key i j h1 hj h
  · exact (key j i h1 hi h.symm).symm

def mVs : List View := [⟨10, 10, 0⟩, ⟨20, 10, 5⟩]
theorem leastOf1 (x : Int) : leastOf [x] = x := rfl

/-- What is written is taken. -/
theorem mC_may {O : Op14} (hv : O.vs = mVs) (hm : O.ms = [noMark]) (ks k : Nat) (h0 : 0 < ks) (hk : k < 1500) : mayE O (mC ks k) = 0 := by
  have hkk : keyOk (mC ks k).k = true := by
    have : (mC ks k).k.size = 1 := rfl
    unfold keyOk
    rw [this]
    rfl
  have hq : k / 2 / ks ≤ 750 := Nat.le_trans (Nat.div_le_self _ _) (by omega)
  have hs : (mC ks k).s = ((k / 2 / ks * 10 : Nat) : Int) := rfl
  have hvv : (mC ks k).v = ((k % 2 : Nat) : Int) := rfl
  unfold mayE
  rw [hv, hm, leastOf1, hkk, hs, hvv, Int.toNat_natCast]
  have hl : mVs.length = 2 := rfl
  generalize k / 2 / ks = z at *
  rw [hl, if_neg (by omega), if_neg (by decide), if_neg (by omega)]
  have h2 : k % 2 = 0 ∨ k % 2 = 1 := by omega
  rcases h2 with h2 | h2
  · rw [h2]
    simp only [mVs, List.getD_cons_zero, View.shut, noMark]
    rw [if_neg (by omega), if_neg (by simp; omega)]
  · rw [h2]
    simp only [mVs, List.getD_cons_succ, List.getD_cons_zero, View.shut, noMark]
    rw [if_neg (by omega), if_neg (by simp; omega)]

structure ManyI (n t ks i : Nat) (O : Op14) : Prop where
  vs : O.vs = mVs
  ms : O.ms = [noMark]
  len : O.live.length = i
  mem : ∀ c ∈ O.live, ∃ q, q < i ∧ c = mC ks (mP n t q)
theorem many_step {n t ks i : Nat} {O : Op14} (h : ManyI n t ks i O) (hn : n < 1500) (hi : i < n) (h0 : 0 < ks) (h1 : ks ≤ 20) :
    wroteE O [mC ks (mP n t i), mC ks (mP n t i)] = 0 ∧ ManyI n t ks (i + 1) (wroteO O [mC ks (mP n t i), mC ks (mP n t i)]) := by
  have hm := mC_may h.vs h.ms ks (mP n t i) h0 (Nat.lt_trans (mP_lt (by omega)) hn)
  have he : wroteE O [mC ks (mP n t i), mC ks (mP n t i)] = 0 := by
    unfold wroteE
    rw [if_pos hm]
    unfold wroteE
    rw [if_pos hm]
    rfl
  refine ⟨he, ?_⟩
  unfold wroteO
  rw [if_pos he]
  have hnot : mC ks (mP n t i) ∉ O.live := by
    intro hc
    obtain ⟨q, hq, e⟩ := h.mem _ hc
    have := mP_inj hn hi (by omega) (mC_inj h0 h1 e)
    omega
  have hins : insL O.live [mC ks (mP n t i), mC ks (mP n t i)] = sortC (mC ks (mP n t i) :: O.live) := by
    show ins1 (ins1 O.live (mC ks (mP n t i))) (mC ks (mP n t i)) = _
    have e1 : ins1 O.live (mC ks (mP n t i)) = sortC (mC ks (mP n t i) :: O.live) := by unfold ins1; rw [if_neg hnot]
    rw [e1]
    unfold ins1
    rw [if_pos ((sortC_perm _).mem_iff.2 (List.mem_cons_self ..))]
  refine ⟨h.vs, h.ms, ?_, ?_⟩
  · show (insL O.live _).length = _
    rw [hins, sortC_length, List.length_cons, h.len]
  · intro c hc
    have hc' : c ∈ insL O.live [mC ks (mP n t i), mC ks (mP n t i)] := hc
    rcases mem_insL.1 hc' with h2 | h2
    · have : c = mC ks (mP n t i) := by simpa using h2
      exact ⟨i, by omega, this⟩
    · obtain ⟨q, hq, e⟩ := h.mem c h2
      exact ⟨q, by omega, e⟩

theorem filter_two {α : Type} (f : α → Bool) : ∀ l : List α, (l.filter f).length + (l.filter fun c => !f c).length = l.length
  | [] => rfl
  | x :: r => by
    have := filter_two f r
    cases h : f x <;> simp [h] <;> omega
/-- 'end'. -/
def mEnd (c : Cell) : Int := if c.v = 0 then c.s + 10 else c.s + 25
theorem many_shut {n t ks i : Nat} {O : Op14} (h : ManyI n t ks i O) (at' : Int) (ha : 0 ≤ at') (ha2 : at' ≤ 100000) {c : Cell} (hc : c ∈ O.live) : shutC (O.marked 0 at') c = decide (mEnd c ≤ at') := by
  obtain ⟨q, hq, e⟩ := h.mem c hc
  have hls : leastOf (O.marked 0 at').ms = at' := by
    unfold Op14.marked
    rw [h.ms]
    show leastOf [max noMark at'] = at'
    rw [leastOf1]
    unfold noMark
    omega
  have hvv : (O.marked 0 at').vs = mVs := h.vs
  unfold shutC
  rw [hls, hvv]
  have hv : c.v = ((mP n t q % 2 : Nat) : Int) := by rw [e]; rfl
  unfold mEnd
  have h2 : mP n t q % 2 = 0 ∨ mP n t q % 2 = 1 := by omega
  rcases h2 with h2 | h2
  · have hv0 : c.v = 0 := by omega
    rw [hv0, if_pos rfl]
    show decide (c.s + 10 + 0 ≤ at') = _
    rw [Int.add_zero]
  · have hv0 : c.v = 1 := by omega
    rw [hv0, if_neg (by decide)]
    show decide (c.s + 20 + 5 ≤ at') = _
    rw [Int.add_assoc]
    rfl
theorem many_mark {n t ks i : Nat} {O : Op14} (h : ManyI n t ks i O) (at' : Int) (ha : 0 ≤ at') (ha2 : at' ≤ 100000) :
    markE O 0 at' = 0 ∧ (∀ c ∈ markX O 0 at', mEnd c ≤ at') ∧ (∀ c ∈ (markO O 0 at').live, at' < mEnd c) ∧ (markX O 0 at').length + (markO O 0 at').live.length = i := by
  have hs : srcOk O 0 = true := by unfold srcOk; rw [h.ms]; rfl
  have ht : timeOk at' = true := by unfold timeOk; simp; omega
  unfold markE markX markO
  rw [hs, ht]
  simp only [Bool.true_eq_false, if_false, and_self, if_true]
  refine ⟨trivial, fun c hc => ?_, fun c hc => ?_, ?_⟩
  · have h1 := List.mem_filter.1 hc
    have h2 := h1.2
    rw [many_shut h at' ha ha2 h1.1] at h2
    simpa using h2
  · have h1 := List.mem_filter.1 hc
    have h2 := h1.2
    rw [many_shut h at' ha ha2 h1.1] at h2
    simpa using h2
  · have hl : (O.marked 0 at').live = O.live := rfl
    rw [hl, ← h.len]
    exact filter_two _ _
end Go.Proofs.Ytheimbhnckaonaa
