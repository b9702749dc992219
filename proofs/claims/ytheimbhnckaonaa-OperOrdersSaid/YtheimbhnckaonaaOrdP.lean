/- OperOrders: marks in whatever order lead to the same (plain). -/
import Derived.Test.YtheimbhnckaonaaTrio
set_option linter.unusedVariables false
set_option linter.unusedSimpArgs false
namespace Go.Proofs.Ytheimbhnckaonaa
open Go.RowKit

/-- The marks behind one more. -/
def mk1 (ms : List Int) (s t : Int) : List Int := if 0 ≤ s ∧ s < ms.length ∧ timeOk t = true then ms.set s.toNat (max (ms.getD s.toNat 0) t) else ms

theorem markO_nil (vs : List View) (ms : List Int) (s t : Int) : markO ⟨vs, ms, []⟩ s t = ⟨vs, mk1 ms s t, []⟩ := by
  unfold markO mk1 srcOk Op14.marked
  by_cases h1 : 0 ≤ s ∧ s < (ms.length : Int)
  · by_cases h2 : timeOk t = true
    · simp [h1.1, h1.2, h2]
    · simp [h2]
  · have h3 : ¬ (0 ≤ s ∧ s < (ms.length : Int) ∧ timeOk t = true) := fun h => h1 ⟨h.1, h.2.1⟩
    rw [if_neg h3, if_neg (by simpa using fun a b => absurd ⟨a, b⟩ h1)]

theorem mk1_len (ms : List Int) (s t : Int) : (mk1 ms s t).length = ms.length := by
  unfold mk1
  split <;> simp
theorem mk1_get (ms : List Int) (s t : Int) {i : Nat} (hi : i < ms.length) : (mk1 ms s t).getD i 0 = if s = i ∧ timeOk t = true then max (ms.getD i 0) t else ms.getD i 0 := by
  unfold mk1
  by_cases h1 : s = i
  · subst h1
    by_cases h2 : timeOk t = true
    · rw [if_pos ⟨by omega, by omega, h2⟩, if_pos ⟨rfl, h2⟩]
      simp [List.getD_eq_getElem?_getD, hi]
    · rw [if_neg (fun h => h2 h.2.2), if_neg (fun h => h2 h.2)]
  · rw [if_neg (c := s = (i : Int) ∧ timeOk t = true) (fun h => h1 h.1)]
    split
    · rename_i h
      have hne : s.toNat ≠ i := by omega
      simp [List.getD_eq_getElem?_getD, List.getElem?_set_ne hne]
    · rfl

def runMs (ms : List Int) (l : List St) : List Int := l.foldl (fun m st => mk1 m st.source st.t) ms
def fmFrom (i : Nat) (m : Int) (l : List St) : Int := l.foldl (fun m st => if st.source = (i : Int) ∧ timeOk st.t = true then max m st.t else m) m
abbrev fm (i : Nat) (l : List St) : Int := fmFrom i noMark l

theorem runMs_len : ∀ (l : List St) (ms : List Int), (runMs ms l).length = ms.length
  | [], _ => rfl
  | st :: l, ms => by
    show (runMs (mk1 ms st.source st.t) l).length = _
    rw [runMs_len l, mk1_len]
theorem runMs_get : ∀ (l : List St) (ms : List Int) {i : Nat}, i < ms.length → (runMs ms l).getD i 0 = fmFrom i (ms.getD i 0) l
  | [], _, _, _ => rfl
  | st :: l, ms, i, hi => by
    show (runMs (mk1 ms st.source st.t) l).getD i 0 = fmFrom i (if st.source = (i : Int) ∧ timeOk st.t = true then max (ms.getD i 0) st.t else ms.getD i 0) l
    rw [runMs_get l _ (by rw [mk1_len]; exact hi), mk1_get ms st.source st.t hi]
theorem runMs_snoc (ms : List Int) (sts : List St) {j : Nat} (hj : j < sts.length) : runMs ms (sts.take (j + 1)) = mk1 (runMs ms (sts.take j)) sts[j].source sts[j].t := by
  unfold runMs
  rw [List.take_succ_eq_append_getElem hj, List.foldl_append]
  rfl
theorem fm_snoc (i : Nat) (sts : List St) {j : Nat} (hj : j < sts.length) : fm i (sts.take (j + 1)) = if sts[j].source = (i : Int) ∧ timeOk sts[j].t = true then max (fm i (sts.take j)) sts[j].t else fm i (sts.take j) := by
  unfold fm fmFrom
  rw [List.take_succ_eq_append_getElem hj, List.foldl_append]
  rfl
theorem fm_ge : ∀ (i : Nat) (sts : List St) {j N : Nat}, j < N → (hN : N ≤ sts.length) → (hj : j < sts.length) → sts[j].source = (i : Int) → timeOk sts[j].t = true → sts[j].t ≤ fm i (sts.take N) := by
  intro i sts j N hjN
  induction N with
  | zero => omega
  | succ N ih =>
    intro hN hj h1 h2
    rw [fm_snoc i sts (by omega)]
    by_cases e : j = N
    · subst e
      rw [if_pos ⟨h1, h2⟩]
      omega
    · have := ih (by omega) (by omega) hj h1 h2
      split <;> omega

/-- The second operator's marks: those of sources from q on are done. -/
structure BS (k : Nat) (L : List St) (q : Nat) (ms : List Int) : Prop where
  len : ms.length = k
  vals : ∀ i, i < k → ms.getD i 0 = if q ≤ i then fm i L else noMark
/-- In the midst of source q. -/
structure BI (k : Nat) (L : List St) (M : List St) (q : Nat) (ms : List Int) : Prop where
  len : ms.length = k
  vals : ∀ i, i < k → ms.getD i 0 = if q < i then fm i L else if q = i then fm i M else noMark

theorem BS.start (k : Nat) (L : List St) : BS k L k (List.replicate k noMark) := ⟨by simp, fun i hi => by rw [if_neg (by omega)]; simp [List.getD_eq_getElem?_getD, hi]⟩
theorem BS.into {k q : Nat} {L : List St} {ms : List Int} (h : BS k L (q + 1) ms) : BI k L [] q ms := ⟨h.len, fun i hi => by
  rw [h.vals i hi]
  by_cases h1 : q < i
  · rw [if_pos (by omega), if_pos h1]
  · rw [if_neg (by omega), if_neg h1]
    split <;> rfl⟩
theorem BI.out {k q : Nat} {L : List St} {ms : List Int} (h : BI k L L q ms) : BS k L q ms := ⟨h.len, fun i hi => by
  rw [h.vals i hi]
  by_cases h1 : q < i
  · rw [if_pos h1, if_pos (by omega)]
  · rw [if_neg h1]
    by_cases h2 : q = i
    · rw [if_pos h2, if_pos (by omega)]
    · rw [if_neg h2, if_neg (by omega)]⟩
theorem BI.hit {k q : Nat} {L sts : List St} {j : Nat} {ms : List Int} (h : BI k L (sts.take j) q ms) (hj : j < sts.length) (hs : sts[j].source = (q : Int)) : BI k L (sts.take (j + 1)) q (mk1 ms q sts[j].t) := ⟨by rw [mk1_len, h.len], fun i hi => by
  rw [mk1_get ms _ _ (by rw [h.len]; exact hi), h.vals i hi, fm_snoc i sts hj, hs]
  by_cases h1 : q < i
  · rw [if_neg (by omega), if_pos h1, if_pos h1]
  · rw [if_neg h1, if_neg h1]
    by_cases h2 : q = i
    · subst h2
      rw [if_pos rfl, if_pos rfl]
    · rw [if_neg h2, if_neg h2, if_neg (by omega)]⟩
theorem BI.miss {k q : Nat} {L sts : List St} {j : Nat} {ms : List Int} (h : BI k L (sts.take j) q ms) (hj : j < sts.length) (hs : ¬ sts[j].source = (q : Int)) : BI k L (sts.take (j + 1)) q ms := ⟨h.len, fun i hi => by
  rw [h.vals i hi, fm_snoc i sts hj]
  by_cases h1 : q < i
  · rw [if_pos h1, if_pos h1]
  · rw [if_neg h1, if_neg h1]
    by_cases h2 : q = i
    · subst h2
      rw [if_pos rfl, if_pos rfl, if_neg (by omega)]
    · rw [if_neg h2, if_neg h2]⟩
/-- A mark that is no greater changes nothing. -/
theorem mk1_same {ms : List Int} {q : Nat} {t : Int} (hq : q < ms.length) (ht : t ≤ ms.getD q 0) : mk1 ms q t = ms := by
  unfold mk1
  split
  · have e : max (ms.getD (q : Int).toNat 0) t = ms.getD q 0 := by simp only [Int.toNat_natCast]; omega
    rw [e]
    simp [List.getD_eq_getElem?_getD, hq]
  · rfl
theorem BS.low {k q : Nat} {sts : List St} {N : Nat} {ms : List Int} (h : BS k (sts.take N) q ms) (hq : q < k) {j : Nat} (hj : j < N) (hN : N ≤ sts.length) (hjl : j < sts.length) (hs : sts[j].source = (q : Int)) (ht : timeOk sts[j].t = true) : sts[j].t ≤ ms.getD q 0 := by
  rw [h.vals q hq, if_pos (Nat.le_refl _)]
  exact fm_ge q sts hj hN hjl hs ht
/-- In the end both have the same. -/
theorem BS.fin {k : Nat} {L : List St} {ms : List Int} (h : BS k L 0 ms) : ms = runMs (List.replicate k noMark) L := by
  apply List.ext_getElem?
  intro i
  by_cases hi : i < k
  · have h1 := h.vals i hi
    rw [if_pos (Nat.zero_le _)] at h1
    have h2 := runMs_get L (List.replicate k noMark) (i := i) (by simpa using hi)
    have h3 : (List.replicate k noMark).getD i 0 = noMark := by simp [List.getD_eq_getElem?_getD, hi]
    rw [h3] at h2
    have e : ms.getD i 0 = (runMs (List.replicate k noMark) L).getD i 0 := by rw [h1, h2]
    have l1 : i < ms.length := by rw [h.len]; exact hi
    have l2 : i < (runMs (List.replicate k noMark) L).length := by rw [runMs_len]; simpa using hi
    rw [List.getElem?_eq_getElem l1, List.getElem?_eq_getElem l2]
    simpa [List.getD_eq_getElem?_getD, l1, l2] using e
  · rw [List.getElem?_eq_none (by rw [h.len]; omega), List.getElem?_eq_none (by rw [runMs_len]; simp; omega)]
end Go.Proofs.Ytheimbhnckaonaa
