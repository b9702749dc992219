/- Maps keyed by whole numbers; nil maps. -/
import Derived.Test.YtaicecnfodhlcaaHash
set_option linter.unusedVariables false
set_option linter.unusedSimpArgs false
namespace Go.Proofs.Ytaicecnfodhlcaa
open Go.RowKit

abbrev intV (n : Int) : Value := .int .i64 n

theorem findNow_hit (n : Int) : ∀ (es : List MapEntry) (cs : List Int) (i : Nat), es.map (·.key) = cs.map intV → n ∈ cs →
    ∃ (j : Nat) (hj : j < es.length), cs[j]? = some n ∧ Instr.findNow (.int .i64) (intV n) es i = some (some (i + j, es[j].val))
  | [], [], i, _, hc => by simp at hc
  | [], d :: cs, i, h, _ => by simp at h
  | e :: es, [], i, h, _ => by simp at h
  | e :: es, d :: cs, i, h, hc => by
    simp only [List.map_cons, List.cons.injEq] at h
    obtain ⟨h1, h2⟩ := h
    by_cases he : n = d
    · subst he
      exact ⟨0, by simp, rfl, by simp [Instr.findNow, h1, Instr.sameNow]⟩
    · obtain ⟨j, hj, h3, h4⟩ := findNow_hit n es cs (i + 1) h2 (by
        rcases List.mem_cons.1 hc with h | h
        · exact absurd h he
        · exact h)
      refine ⟨j + 1, by simpa using hj, by simpa using h3, ?_⟩
      have hb : (n == d) = false := by simpa using he
      simp only [Instr.findNow, h1, Instr.sameNow, if_true, hb]
      rw [h4]
      simp
      omega
theorem findNow_miss (n : Int) : ∀ (es : List MapEntry) (cs : List Int) (i : Nat), es.map (·.key) = cs.map intV → n ∉ cs → Instr.findNow (.int .i64) (intV n) es i = some none
  | [], _, i, _, _ => rfl
  | e :: es, [], i, h, _ => by simp at h
  | e :: es, d :: cs, i, h, hc => by
    simp only [List.map_cons, List.cons.injEq] at h
    obtain ⟨h1, h2⟩ := h
    have he : (n == d) = false := by
      have : ¬ n = d := fun e => hc (by simp [e])
      simpa using this
    simp only [Instr.findNow, h1, Instr.sameNow, if_true, he]
    exact findNow_miss n es cs (i + 1) h2 (fun h => hc (List.mem_cons_of_mem _ h))
theorem keyInt : KeyT Try.prog 3 intV where
  check b c w := by kernel_rfl
  bits c := by simp [Instr.sameBits]
  hit w c es cs h hc := by
    obtain ⟨j, hj, h1, h2⟩ := findNow_hit c es cs 0 h hc
    exact ⟨j, hj, h1, by simp [Instr.findKey, run_underlying Try.underlying3, h2]⟩
  miss w c es cs h hc := by
    have h2 := findNow_miss c es cs 0 h hc
    simp [Instr.findKey, run_underlying Try.underlying3, h2]
end Go.Proofs.Ytaicecnfodhlcaa
